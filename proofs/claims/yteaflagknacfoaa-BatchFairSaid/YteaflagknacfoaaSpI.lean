/- Seat 05: the order in which ids are delivered. No condition. -/
import Derived.Test.YteaflagknacfoaaSpH
namespace Go.Proofs.Yteaflagknacfoaa.Sim
set_option linter.unusedSimpArgs false

/-- Ids. -/
abbrev Idn := Int × Int
def icells (x : Idn) : List AV := [.int .u8 x.1, .int .u64 x.2]
theorem ic_len (x : Idn) : (icells x).length = 2 := rfl
/-- The ids of one pass. -/
def passR (p : Nat) : List Rn → List Idn
  | [] => []
  | r :: l => if (p : Int) < r.2.2 then (r.1, r.2.1 + p) :: passR p l else passR p l
/-- The ids of the passes ahead of p. -/
def ordPre : Nat → List Rn → List Idn
  | 0, _ => []
  | p + 1, l => ordPre p l ++ passR p l
def sumMin (p : Nat) : List Rn → Nat
  | [] => 0
  | r :: l => min r.2.2.toNat p + sumMin p l
theorem sumMin_succ (p : Nat) : ∀ (l : List Rn), sumMin (p + 1) l = sumMin p l + (passR p l).length
  | [] => rfl
  | r :: l => by
    have := sumMin_succ p l
    unfold sumMin passR
    split
    · simp only [List.length_cons]; omega
    · omega
theorem ordPre_len : ∀ (p : Nat) (l : List Rn), (ordPre p l).length = sumMin p l
  | 0, l => by
    have : ∀ l : List Rn, sumMin 0 l = 0 := fun l => by induction l with
      | nil => rfl
      | cons r l ih => simp [sumMin, ih]
    simp [ordPre, this]
  | p + 1, l => by rw [ordPre, List.length_append, ordPre_len p l, sumMin_succ]
def sumAll : List Rn → Nat
  | [] => 0
  | r :: l => r.2.2.toNat + sumAll l
theorem sumMin_le (p : Nat) : ∀ l, sumMin p l ≤ sumAll l
  | [] => Nat.le_refl _
  | r :: l => by have := sumMin_le p l; unfold sumMin sumAll; omega
theorem sumAll_mem : ∀ {l : List Rn} {r : Rn}, r ∈ l → r.2.2.toNat ≤ sumAll l
  | a :: l, r, h => by
    rcases List.mem_cons.1 h with rfl | h
    · unfold sumAll; omega
    · have := sumAll_mem h; unfold sumAll; omega
theorem sumMin_all (p : Nat) : ∀ {l : List Rn}, sumMin p l = sumAll l → ∀ r ∈ l, r.2.2.toNat ≤ p
  | a :: l, h, r, hr => by
    have := sumMin_le p l
    unfold sumMin sumAll at h
    rcases List.mem_cons.1 hr with rfl | hr
    · omega
    · exact sumMin_all p (by omega) r hr
theorem passR_nil (p : Nat) : ∀ {l : List Rn}, (∀ r ∈ l, r.2.2 ≤ p) → passR p l = []
  | [], _ => rfl
  | r :: l, h => by
    unfold passR
    rw [if_neg (by have := h r List.mem_cons_self; omega)]
    exact passR_nil p fun x hx => h x (List.mem_cons_of_mem _ hx)
theorem ordPre_stay {l : List Rn} (p : Nat) (h : ∀ r ∈ l, r.2.2 ≤ p) : ∀ q, ordPre (p + q) l = ordPre p l
  | 0 => rfl
  | q + 1 => by
    rw [← Nat.add_assoc, ordPre, ordPre_stay p h q, passR_nil (p + q) (fun r hr => by have := h r hr; omega), List.append_nil]
theorem countR_sum : ∀ (l : List Rn) (a : Int), (∀ r ∈ l, runOk r = true) → 0 ≤ a → countR a l < 4611686018427387904 → countR a l = a + sumAll l
  | [], a, _, _, _ => by simp [countR, sumAll]
  | r :: l, a, h, h0, hc => by
    have hr := h r List.mem_cons_self
    have hle := runOk_le hr
    unfold countR at hc ⊢
    rw [if_pos hr] at hc ⊢
    have hmono : ∀ (l : List Rn) (a : Int), a ≤ 4611686018427387904 → a ≤ countR a l := by
      intro l
      induction l with
      | nil => intro a _; exact Int.le_refl _
      | cons r l ih =>
        intro a ha
        unfold countR
        split
        · rename_i hr; have := runOk_le hr; have := ih (min (a + r.2.2) 4611686018427387904) (by omega); omega
        · exact ih a ha
    have := hmono l (min (a + r.2.2) 4611686018427387904) (by omega)
    rw [countR_sum l _ (fun x hx => h x (List.mem_cons_of_mem _ hx)) (by omega) hc, sumAll]
    omega

theorem sumMin_ge {l : List Rn} {N : Nat} (h : sumAll l ≤ N) : sumMin N l = sumAll l := by
  have : ∀ l : List Rn, (∀ r ∈ l, r.2.2.toNat ≤ N) → sumMin N l = sumAll l := by
    intro l
    induction l with
    | nil => intro _; rfl
    | cons r l ih =>
      intro h
      have h1 := h r List.mem_cons_self
      rw [sumMin, sumAll, ih fun x hx => h x (List.mem_cons_of_mem _ hx)]
      omega
  exact this l fun r hr => Nat.le_trans (sumAll_mem hr) h

theorem build_id (a b : Int) {α : Type} (f : List AV → Option α) : aBuild [(0, 1, .int .u8 a), (1, 1, .int .u64 b)] [AV.int .u8 0, AV.int .u64 0] f = f (icells (a, b)) := by
  simp [aBuild, aCells, putAll, icells]
theorem build_idrow (r : Idn) {α : Type} (f : List AV → Option α) : aBuild [(0, 2, .agg (icells r))] [AV.int .u8 0, AV.int .u64 0] f = f (icells r) := by
  simp [aBuild, aCells, putAll, icells]

/-- A slice of runs: what an element is. -/
theorem elem_run {s : Store} {v : AV} {l : List Rn} (h : IsRuns s v l) {i : Nat} (hi : i < l.length) : ∃ p, (∀ {α : Type} (f : AV → Option α), aIndexSl 3 v (.int .i64 (i : Int)) f = f p) ∧ ∀ {α : Type} (f : AV → Option α), aLoadN 3 p s f = f (.agg (rcells l[i])) := by
  obtain ⟨p, h1, h2⟩ := elemL (c := rcells) (es := 3) r_len h hi
  exact ⟨p, fun f => h1 _ f, fun f => h2 f⟩

/-- A copy of a thing in a row of its own. -/
theorem copy_run {s : Store} (r : Rn) : Ext s ((s.push (.cells [AV.int .u8 0, AV.int .u64 0, AV.int .u64 0] false)).set s.next (.cells (rcells r) false)) ∧ s.next < ((s.push (.cells [AV.int .u8 0, AV.int .u64 0, AV.int .u64 0] false)).set s.next (.cells (rcells r) false)).next ∧ ((s.push (.cells [AV.int .u8 0, AV.int .u64 0, AV.int .u64 0] false)).set s.next (.cells (rcells r) false)).get s.next = .cells (rcells r) false ∧
    ∀ {α : Type} (f : Store → Option α), aStore 3 (.ptr s.next 0 3) (.agg (rcells r)) (s.push (.cells [AV.int .u8 0, AV.int .u64 0, AV.int .u64 0] false)) f = f ((s.push (.cells [AV.int .u8 0, AV.int .u64 0, AV.int .u64 0] false)).set s.next (.cells (rcells r) false)) :=
  ⟨⟨by simp only [next_set, next_push]; omega, fun l hl => by grind [get_set, get_push]⟩, Nat.lt_succ_self _, by rw [get_set, if_pos rfl], fun f => st_3 r (by rw [get_push, if_pos rfl]) rfl f⟩

theorem ExtLo.isRuns {lo : Nat} {s s' : Store} (e : ExtLo lo s s') {v : AV} {l : List Rn} (h : IsRuns s v l) (hv : ∀ a b c d f, v = .sl a b c d f → a < lo) : IsRuns s' v l := by
  rcases h with h | ⟨id, ro, h1, h2, h3⟩
  · exact .inl h
  · exact .inr ⟨id, ro, h1, Nat.lt_of_lt_of_le h2 e.next, by rw [e.get id (hv _ _ _ _ _ h1)]; exact h3⟩
theorem IsRuns.lt {s : Store} {v : AV} {l : List Rn} (h : IsRuns s v l) : ∀ a b c d f, v = .sl a b c d f → a < s.next := by
  rcases h with ⟨h, _⟩ | ⟨id, ro, h1, h2, h3⟩
  · intro a b c d f e; rw [h] at e; cases e
  · intro a b c d f e; rw [h1] at e; cases e; exact h2

section
variable {x0 : AV} {l : List Rn} {lo : Nat}

/-- One pass. -/
theorem ord_pass (k : Nat) {R0 : AV → AV → AV → AV → Store → Option (AV × Store)} {x4 : AV} {p : Nat} (hp : p ≤ 5000) (hw : ∀ r ∈ l, WfR r) (hok : ∀ r ∈ l, runOk r = true) (hlo : ∀ a b c d f, x0 = .sl a b c d f → a < lo) (hl : l.length ≤ 100000) : ∀ (n i : Nat) (s : Store) (out : List Idn) (v : AV), IsRuns s x0 l → lo ≤ s.next → OwnL icells 2 s v out lo → out.length + (l.length - i) ≤ 1000000000 → i ≤ l.length → l.length - i < n →
    ∃ v' s', batch_Order.l0 k R0 n x0 x4 v (.int .u64 p) x0 (.int .i64 l.length) (.int .i64 i) s = R0 x0 x4 v' (.int .u64 ((p + 1 : Nat) : Int)) s' ∧ OwnL icells 2 s' v' (out ++ passR p (l.drop i)) lo ∧ ExtLo lo s s'
  | 0, i, _, _, _, _, _, _, _, hi, hn => by omega
  | n + 1, i, s, out, v, h0, hs0, ho, hb, hi, hn => by
    have hs : batch_Order.l0 k R0 (n + 1) = fun x0 x4 x5 x6 x27 x28 x29 s => batch_Order.p5 k R0 (batch_Order.l0 k R0 n) x0 x4 x5 x6 x27 x28 x29 s := rfl
    rw [hs]
    clear hs
    simp only
    unfold batch_Order.p5 batch_Order.p4
    rw [lss_i]
    by_cases h : i < l.length
    · have hz : (i : Int) < (l.length : Int) := by omega
      rw [decide_eq_true hz, if_t]
      unfold batch_Order.p3 batch_Order.p2
      have hw1 : IntKind.i64.wrap ((i : Int) + 1) = ((i + 1 : Nat) : Int) := by rw [w_i64 (by omega) (by omega)]; omega
      obtain ⟨q, q1, q2⟩ := elem_run h0 h
      obtain ⟨e1, n1, g1, st⟩ := copy_run (s := s) l[i]
      rw [q1, q2, new_s, show ([AV.int .u8 0, AV.int .u64 0, AV.int .u64 0] : List AV).length = 3 from rfl, st]
      generalize ((s.push (.cells [AV.int .u8 0, AV.int .u64 0, AV.int .u64 0] false)).set s.next (.cells (rcells l[i]) false)) = s1 at *
      have hrk := of_decide_eq_true (hok _ (List.getElem_mem h))
      have hwi := hw _ (List.getElem_mem h)
      simp only [fld_p, ld_2 g1, lss_i]
      rw [List.drop_eq_getElem_cons h, passR]
      by_cases hc : (p : Int) < l[i].2.2
      · rw [decide_eq_true hc, if_t, if_pos hc]
        have hsum : l[i].2.1 + (p : Int) < 18446744073709551616 := by omega
        simp only [ld_0 g1, ld_1 g1, add_i, w_u64 (show 0 ≤ l[i].2.1 + (p : Int) by omega) hsum, build_id, build_idrow, hw1]
        obtain ⟨v1, s2, f1, f2, f3⟩ := app_ownL (bytes := 16) ic_len (by omega) (by omega) (ho.ext e1) (Nat.le_trans hs0 e1.next) (l[i].1, l[i].2.1 + (p : Int)) (by omega)
        rw [f1]
        have e2 := (e1.lo hs0).trans f3
        obtain ⟨v', s', k1, k2, k3⟩ := ord_pass k (R0 := R0) (x4 := x4) hp hw hok hlo hl n (i + 1) s2 (out ++ [(l[i].1, l[i].2.1 + (p : Int))]) v1 (e2.isRuns h0 hlo) (Nat.le_trans hs0 e2.next) f2 (by simp; omega) (by omega) (by omega)
        exact ⟨v', s', k1, by rw [List.append_cons]; exact k2, e2.trans k3⟩
      · rw [decide_eq_false hc, if_f, if_neg hc, add_i, hw1]
        have e2 := e1.lo hs0
        obtain ⟨v', s', k1, k2, k3⟩ := ord_pass k (R0 := R0) (x4 := x4) hp hw hok hlo hl n (i + 1) s1 out v (e2.isRuns h0 hlo) (Nat.le_trans hs0 e2.next) (ho.ext e1) (by omega) (by omega) (by omega)
        exact ⟨v', s', k1, k2, e2.trans k3⟩
    · have hz : ¬ (i : Int) < (l.length : Int) := by omega
      rw [decide_eq_false hz, if_f]
      unfold batch_Order.p1
      rw [add_i, w_u64 (by omega) (by omega), List.drop_eq_nil_of_le (by omega)]
      exact ⟨v, s, rfl, by simpa [passR] using ho, ExtLo.refl _ _⟩

/-- All passes. -/
theorem ord_passes (k : Nat) (hk : l.length < k) (hw : ∀ r ∈ l, WfR r) (hok : ∀ r ∈ l, runOk r = true) (hlo : ∀ a b c d f, x0 = .sl a b c d f → a < lo) (hl : l.length ≤ 100000) (hsum : sumAll l ≤ 4096) : ∀ (n p : Nat) (s : Store) (v : AV), IsRuns s x0 l → lo ≤ s.next → OwnL icells 2 s v (ordPre p l) lo → p ≤ 4096 → 4096 - p + 1 < n →
    ∃ v' s', batch_Order.l1 k n x0 (.int .u64 (sumAll l)) v (.int .u64 p) s = some (v', s') ∧ OwnL icells 2 s' v' (ordPre 4096 l) lo ∧ ExtLo lo s s'
  | 0, p, _, _, _, _, _, hp, hn => by omega
  | n + 1, p, s, v, h0, hs0, ho, hp, hn => by
    have hs : batch_Order.l1 k (n + 1) = fun x0 x4 x5 x6 s => batch_Order.p7 k (batch_Order.l1 k n) x0 x4 x5 x6 s := rfl
    rw [hs]
    clear hs
    simp only
    unfold batch_Order.p7
    have hlen := ordPre_len p l
    have hle := sumMin_le p l
    rw [lenL ho.is, conv_i, w_u64 (by omega) (by omega), lss_i]
    by_cases hc : ((ordPre p l).length : Int) < (sumAll l : Int)
    · rw [decide_eq_true hc, if_t]
      unfold batch_Order.p6
      rw [len_runs h0]
      have hp2 : p < 4096 := by
        by_cases e : p = 4096
        · have : sumMin p l = sumAll l := sumMin_ge (by omega)
          omega
        · omega
      obtain ⟨v1, s1, k1, k2, k3⟩ := ord_pass k (R0 := batch_Order.l1 k n) (x4 := .int .u64 (sumAll l)) (p := p) (by omega) hw hok hlo hl k 0 s (ordPre p l) v h0 hs0 ho (by omega) (by omega) (by omega)
      rw [Int.natCast_zero] at k1
      rw [k1]
      rw [List.drop_zero] at k2
      obtain ⟨v', s', j1, j2, j3⟩ := ord_passes k hk hw hok hlo hl hsum n (p + 1) s1 v1 (k3.isRuns h0 hlo) (Nat.le_trans hs0 k3.next) k2 (by omega) (by omega)
      exact ⟨v', s', j1, j2, k3.trans j3⟩
    · rw [decide_eq_false hc, if_f]
      unfold batch_Order.p0
      have hall := sumMin_all p (l := l) (by omega)
      have := ordPre_stay p (l := l) (fun r hr => by have := hall r hr; omega) (4096 - p)
      rw [show p + (4096 - p) = 4096 by omega] at this
      exact ⟨v, s, rfl, by rw [this]; exact ho, ExtLo.refl _ _⟩
end

/-- The order of runs. -/
def orderR (l : List Rn) : List Idn := if l.any (fun r => !runOk r) = true ∨ 4096 < countR 0 l then [] else ordPre 4096 l

theorem bat_order_own {s : Store} {v : AV} {l : List Rn} (hl : IsRuns s v l) (hw : ∀ r ∈ l, WfR r) (k : Nat) (hk : 5000 ≤ k) (hk2 : k ≤ 100000000) (hb : l.length ≤ 4000) :
    ∃ v' s', run Try.prog (k + 5) 12 [v] s = some (v', s') ∧ OwnL icells 2 s' v' (orderR l) s.next ∧ Ext s s' := by
  rw [batch_Order.eq]
  unfold batch_Order.f batch_Order.p13 batch_Order.p12
  obtain ⟨s1, k1, e1⟩ := contains_func (k + 2) 26 [] (fun r => !runOk r) (fun _ => True) (fun _ _ _ _ => trivial) (fun s r hr _ => by
    obtain ⟨s', q1, q2⟩ := order_1 (s := s) hr k
    exact ⟨s', by simpa using q1, q2⟩) (s := s) trivial hl hw (by omega) (by omega)
  rw [k1, bnd, not_b]
  unfold batch_Order.p11
  obtain ⟨s2, k2, e2⟩ := ident_count (hl.ext e1) hw (k + 2) (by omega) (by omega)
  have e12 := e1.trans e2
  simp only at k2 ⊢
  rw [k2, bnd]
  unfold batch_Order.p10
  have hge := countR_le l 0 (by omega) (by omega)
  by_cases h1 : l.any (fun r => !runOk r) = true
  · simp only [h1, Bool.not_true, Bool.not_false, bnd, guard_tt, guard_ff, guard_tf, guard_ft, pick_t, pick_f, if_t, if_f, add_i, sub_i, lss_i, leq_i, gtr_i, geq_i, eql_i, neq_i, min_i, max_i, conv_i, len_sl, len_nil, not_b, cells_agg, new_s, fld_p, nil_p]
    exact ⟨_, s2, rfl, by unfold orderR; rw [if_pos (.inl h1)]; exact .inl ⟨rfl, rfl⟩, e12⟩
  · have h1' : l.any (fun r => !runOk r) = false := by simpa using h1
    have hok : ∀ r ∈ l, runOk r = true := by
      intro r hr
      have := List.any_eq_false.1 h1' r hr
      simpa using this
    simp only [h1', Bool.not_true, Bool.not_false, bnd, guard_tt, guard_ff, guard_tf, guard_ft, pick_t, pick_f, if_t, if_f, add_i, sub_i, lss_i, leq_i, gtr_i, geq_i, eql_i, neq_i, min_i, max_i, conv_i, len_sl, len_nil, not_b, cells_agg, new_s, fld_p, nil_p]
    by_cases h2 : countR 0 l > 4096
    · simp only [decide_eq_true h2, bnd, guard_tt, guard_ff, guard_tf, guard_ft, pick_t, pick_f, if_t, if_f, add_i, sub_i, lss_i, leq_i, gtr_i, geq_i, eql_i, neq_i, min_i, max_i, conv_i, len_sl, len_nil, not_b, cells_agg, new_s, fld_p, nil_p]
      exact ⟨_, s2, rfl, by unfold orderR; rw [if_pos (.inr h2)]; exact .inl ⟨rfl, rfl⟩, e12⟩
    · simp only [decide_eq_false h2, bnd, guard_tt, guard_ff, guard_tf, guard_ft, pick_t, pick_f, if_t, if_f, add_i, sub_i, lss_i, leq_i, gtr_i, geq_i, eql_i, neq_i, min_i, max_i, conv_i, len_sl, len_nil, not_b, cells_agg, new_s, fld_p, nil_p]
      have hsum := countR_sum l 0 hok (by omega) (by omega)
      unfold batch_Order.p9 batch_Order.p8
      have hl2 := hl.ext e12
      obtain ⟨v', s', j1, j2, j3⟩ := ord_passes (x0 := v) (lo := s2.next) (k + 4) (by omega) hw hok hl2.lt (by omega) (by omega) (k + 4) 0 s2 .nilsl hl2 (Nat.le_refl _) (.inl ⟨rfl, rfl⟩) (by omega) (by omega)
      rw [Int.natCast_zero] at j1
      rw [hsum, Int.zero_add, j1]
      exact ⟨v', s', rfl, by unfold orderR; rw [if_neg (by simp [h1', h2])]; exact j2.mono e12.next, e12.trans (j3.ext (Nat.le_refl _))⟩
theorem bat_order {s : Store} {v : AV} {l : List Rn} (hl : IsRuns s v l) (hw : ∀ r ∈ l, WfR r) (k : Nat) (hk : 5000 ≤ k) (hk2 : k ≤ 100000000) (hb : l.length ≤ 4000) :
    ∃ v' s', run Try.prog (k + 5) 12 [v] s = some (v', s') ∧ IsL icells 2 s' v' (orderR l) ∧ Ext s s' := by
  obtain ⟨v', s', h1, h2, h3⟩ := bat_order_own hl hw k hk hk2 hb
  exact ⟨v', s', h1, h2.is, h3⟩
end Go.Proofs.Yteaflagknacfoaa.Sim
