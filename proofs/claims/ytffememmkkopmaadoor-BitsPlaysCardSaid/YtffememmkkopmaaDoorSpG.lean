/- Seat 11: the document's set: a row of marks. No condition. -/
import Derived.Test.YtffememmkkopmaaDoorSpD
namespace Go.Proofs.YtffememmkkopmaaDoor.Sim
set_option linter.unusedSimpArgs false
set_option linter.unusedVariables false

/-- A row of marks that nobody writes into, but its owner. -/
structure IsB (s : Store) (id : Nat) (m : List Bool) : Prop where
  lt : id < s.next
  row : s.get id = .cells (m.map .bool) false
/-- Its value. -/
def bv (id : Nat) (m : List Bool) : AV := .sl id 0 m.length 1 m.length
section
variable {s s' : Store} {id : Nat} {m : List Bool}
theorem IsB.ext (h : IsB s id m) (e : Ext s s') : IsB s' id m := ⟨Nat.lt_of_lt_of_le h.lt e.next, (e.get _ h.lt).trans h.row⟩
theorem IsB.fr1 {x : Nat} (h : IsB s id m) (e : Fr1 x s s') (hx : id ≠ x) : IsB s' id m := ⟨Nat.lt_of_lt_of_le h.lt e.next, (e.get _ h.lt hx).trans h.row⟩
theorem len_bv (id : Nat) (m : List Bool) {α : Type} (f : AV → Option α) : aLen (bv id m) f = f (.int .i64 m.length) := rfl
theorem IsB.at (h : IsB s id m) {i : Nat} (hi : i < m.length) : (∀ {α : Type} (kk : IntKind) (f : AV → Option α), aIndexSl 1 (bv id m) (.int kk (i : Int)) f = f (.ptr id (0 + i) m.length)) ∧ ∀ {α : Type} (f : AV → Option α), aLoad1 (.ptr id (0 + i) m.length) s f = f (.bool m[i]) := by
  refine ⟨fun kk f => ?_, fun f => ?_⟩
  · unfold bv
    rw [idxV (by omega) (by omega), Int.toNat_natCast]
  · rw [Nat.zero_add]
    exact load_1 h.row (by simp) (by simp [hi])

theorem refnew_loop (k : Nat) (x : Int) (hx : x ≤ 300) (lo id : Nat) (hlo : lo ≤ id) : ∀ (g i : Nat) (s : Store), IsB s id (List.replicate i false) → (i : Int) ≤ max 0 x → (max 0 x - i : Int) < g →
    ∃ s', unisonref11_New.l0 k g (.int .i64 x) (bv id (List.replicate i false)) (.int .i64 (i : Nat)) s = some (bv id (List.replicate (max 0 (min x 1048576)).toNat false), s') ∧ IsB s' id (List.replicate (max 0 (min x 1048576)).toNat false) ∧ ExtLo lo s s'
  | 0, i, _, _, _, hm => by omega
  | g + 1, i, s, h, hi, hm => by
    have hs : unisonref11_New.l0 k (g + 1) = fun x0 x3 x4 s => unisonref11_New.p3 k (unisonref11_New.l0 k g) x0 x3 x4 s := rfl
    rw [hs]
    clear hs
    simp only
    unfold unisonref11_New.p3
    by_cases hix : (i : Int) < x
    · simp only [lss_i, decide_eq_true hix, decide_eq_true (show (i : Int) < 1048576 by omega), bnd, guard_tt, guard_ff, guard_tf, guard_ft, pick_t, pick_f, if_t, if_f, add_i, sub_i, lss_i, leq_i, gtr_i, geq_i, eql_i, neq_i, min_i, max_i, conv_i, len_sl, len_nil, not_b, cells_agg, new_s, fld_p, nil_p]
      unfold unisonref11_New.p2 unisonref11_New.p1
      have hb : ∀ f : List AV → Option (AV × Store), aBuild [(0, 1, .bool false)] [.bool false] f = f [.bool false] := fun f => rfl
      have hne : id ≠ s.next := by have := h.lt; omega
      have hap : ∀ f : AV → Store → Option (AV × Store), aAppend 1 1 (bv id (List.replicate i false)) (.sl s.next 0 1 1 1) (s.push (.cells [.bool false] false)) f = f (bv id (List.replicate (i + 1) false)) ((s.push (.cells [.bool false] false)).set id (.cells ((List.replicate (i + 1) false).map .bool) false)) := by
        intro f
        have hg : (s.push (.cells [.bool false] false)).get id = .cells ((List.replicate i false).map .bool) false := by rw [get_push, if_neg hne]; exact h.row
        have ht : (s.push (.cells [.bool false] false)).get s.next = .cells [.bool false] false := by rw [get_push, if_pos rfl]
        have hr : List.replicate (i + 1) (AV.bool false) = List.replicate i (AV.bool false) ++ [AV.bool false] := List.replicate_succ'
        have hl : (i + 1) ≤ 140737488355328 := by omega
        simp [bv, aAppend, aCellsOf, aRow, ht, aOwn, hg, hr, hl]
      have hw : IntKind.i64.wrap ((i : Int) + 1) = ((i + 1 : Nat) : Int) := by rw [w_i64 (by omega) (by omega)]; omega
      rw [hb, hap, add_i, hw]
      have h1 : IsB ((s.push (.cells [.bool false] false)).set id (.cells ((List.replicate (i + 1) false).map .bool) false)) id (List.replicate (i + 1) false) := ⟨Nat.lt_succ_of_lt h.lt, by rw [get_set, if_pos rfl]⟩
      obtain ⟨s', k1, k2, k3⟩ := refnew_loop k x hx lo id hlo g (i + 1) _ h1 (by omega) (by omega)
      exact ⟨s', k1, k2, ExtLo.trans ⟨by simp only [next_set, next_push]; omega, fun l hl => by rw [get_set, if_neg (by omega), get_push, if_neg (by have := h.lt; omega)]⟩ k3⟩
    · simp only [lss_i, decide_eq_false hix, bnd, guard_tt, guard_ff, guard_tf, guard_ft, pick_t, pick_f, if_t, if_f, add_i, sub_i, lss_i, leq_i, gtr_i, geq_i, eql_i, neq_i, min_i, max_i, conv_i, len_sl, len_nil, not_b, cells_agg, new_s, fld_p, nil_p, guard_ft]
      unfold unisonref11_New.p0
      have e : (max 0 (min x 1048576)).toNat = i := by omega
      rw [e]
      exact ⟨s, rfl, h, ExtLo.refl _ _⟩
theorem refnew_run (x : Int) (hx : x ≤ 300) (k : Nat) (hk : 301 ≤ k) (s : Store) : ∃ s', rn (k + 1) 14 [.int .i64 x] s = some (bv s.next (List.replicate (max 0 (min x 1048576)).toNat false), s') ∧ IsB s' s.next (List.replicate (max 0 (min x 1048576)).toNat false) ∧ Ext s s' := by
  rw [unisonref11_New.eq]
  unfold unisonref11_New.f unisonref11_New.p6 unisonref11_New.p5 unisonref11_New.p4
  rw [build_0]
  obtain ⟨s', k1, k2, k3⟩ := refnew_loop k x hx s.next s.next (Nat.le_refl _) k 0 (s.push (.cells [] false)) ⟨Nat.lt_succ_self _, by rw [get_push, if_pos rfl]; rfl⟩ (by omega) (by omega)
  exact ⟨s', k1, k2, ((Ext.push s _).lo (Nat.le_refl _) |>.trans k3).ext (Nat.le_refl _)⟩

/-- One more mark. -/
def mput (m : List Bool) (x : Int) : List Bool × Int := if 0 ≤ x ∧ x < m.length ∧ m.getD x.toNat true = false then (m.set x.toNat true, 1) else (m, 0)
theorem mput_len (m : List Bool) (x : Int) : (mput m x).1.length = m.length := by unfold mput; split <;> simp
theorem refput_run (h : IsB s id m) (hm : m.length ≤ 1000000) (x : Int) (k : Nat) : ∃ id' s', rn (k + 1) 15 [bv id m, .int .i64 x] s = some (.tuple [bv id' (mput m x).1, .int .i64 (mput m x).2], s') ∧ IsB s' id' (mput m x).1 ∧ Ext s s' ∧ (id' = id ∨ s.next ≤ id') := by
  rw [unisonref11_Put.eq]
  unfold unisonref11_Put.f unisonref11_Put.p0
  have no : ¬ (0 ≤ x ∧ x < m.length ∧ m.getD x.toNat true = false) → mput m x = (m, 0) := fun q => by unfold mput; exact if_neg q
  by_cases h0 : x < 0
  · simp only [lss_i, decide_eq_true h0, guard_tf, bnd, guard_tt, guard_ff, guard_tf, guard_ft, pick_t, pick_f, if_t, if_f, add_i, sub_i, lss_i, leq_i, gtr_i, geq_i, eql_i, neq_i, min_i, max_i, conv_i, len_sl, len_nil, not_b, cells_agg, new_s, fld_p, nil_p]
    rw [no (by omega)]
    exact ⟨id, s, rfl, h, Ext.refl _, .inl rfl⟩
  · by_cases h1 : x ≥ (m.length : Nat)
    · simp only [lss_i, decide_eq_false h0, bnd, guard_tt, guard_ff, guard_tf, guard_ft, pick_t, pick_f, if_t, if_f, add_i, sub_i, lss_i, leq_i, gtr_i, geq_i, eql_i, neq_i, min_i, max_i, conv_i, len_sl, len_nil, not_b, cells_agg, new_s, fld_p, nil_p, len_bv, decide_eq_true h1, guard_tf]
      rw [no (by omega)]
      exact ⟨id, s, rfl, h, Ext.refl _, .inl rfl⟩
    · obtain ⟨i, rfl⟩ : ∃ i : Nat, x = i := ⟨x.toNat, by omega⟩
      have hi : i < m.length := by omega
      obtain ⟨p1, p2⟩ := h.at hi
      have eg : m.getD (i : Int).toNat true = m[i] := by simp [hi]
      simp only [lss_i, decide_eq_false h0, bnd, guard_tt, guard_ff, guard_tf, guard_ft, pick_t, pick_f, if_t, if_f, add_i, sub_i, lss_i, leq_i, gtr_i, geq_i, eql_i, neq_i, min_i, max_i, conv_i, len_sl, len_nil, not_b, cells_agg, new_s, fld_p, nil_p, len_bv, decide_eq_false h1, p1, p2]
      cases hb : m[i] with
      | true =>
        rw [no (by rw [eg, hb]; simp)]
        exact ⟨id, s, rfl, h, Ext.refl _, .inl rfl⟩
      | false =>
        have hy : mput m i = (m.set i true, 1) := by
          unfold mput
          rw [if_pos ⟨by omega, by omega, by rw [eg, hb]⟩, Int.toNat_natCast]
        have hap : ∀ f : AV → Store → Option (AV × Store), aAppend 1 1 (.sl s.next 0 0 1 0) (bv id m) (s.push (.cells [] false)) f = f (bv s.next m) ((s.push (.cells [] false)).set s.next (.cells (m.map .bool) false)) := by
          intro f
          have hne : id ≠ s.next := by have := h.lt; omega
          have hg : (s.push (.cells [] false)).get id = .cells (m.map .bool) false := by rw [get_push, if_neg hne]; exact h.row
          have ht : (s.push (.cells [] false)).get s.next = .cells [] false := by rw [get_push, if_pos rfl]
          have hl : m.length ≤ 140737488355328 := by omega
          have hz : m ≠ [] := fun q => by subst q; exact absurd hi (Nat.not_lt_zero _)
          simp [bv, aAppend, aCellsOf, aRow, ht, aOwn, hg, hl, hz, List.take_of_length_le]
        have hix : ∀ f : AV → Option (AV × Store), aIndexSl 1 (bv s.next m) (.int .i64 (i : Int)) f = f (.ptr s.next (0 + i) m.length) := fun f => by
          unfold bv
          rw [idxV (by omega) (by omega), Int.toNat_natCast]
        have hst : ∀ f : Store → Option (AV × Store), aStore 1 (.ptr s.next (0 + i) m.length) (.bool true) ((s.push (.cells [] false)).set s.next (.cells (m.map .bool) false)) f = f (((s.push (.cells [] false)).set s.next (.cells (m.map .bool) false)).set s.next (.cells ((m.set i true).map .bool) false)) := by
          intro f
          have hg : ((s.push (.cells [] false)).set s.next (.cells (m.map .bool) false)).get s.next = .cells (m.map .bool) false := by rw [get_set, if_pos rfl]
          simp [aStore, aCells, aOwn, hg, putAll, show i + 1 ≤ m.length by omega, List.map_set]
        rw [if_f, build_0, hap, hix, hst, hy]
        refine ⟨s.next, _, (by unfold bv; rw [List.length_set]), ⟨Nat.lt_succ_self _, by rw [get_set, if_pos rfl]⟩, ⟨Nat.le_succ _, fun l hl => ?_⟩, .inr (Nat.le_refl _)⟩
        rw [get_set, if_neg (by omega), get_set, if_neg (by omega), get_push, if_neg (by omega)]

/-- The marks are a set's. -/
def Marks (m : List Bool) (n : Nat) (W : List Nat) : Prop := m.length = n ∧ ∀ j, (h : j < m.length) → m[j] = bitW W j
theorem refcount_loop (h : IsB s id m) {n : Nat} {W : List Nat} (hM : Marks m n W) (hm : m.length ≤ 1000000) (k : Nat) : ∀ (g i : Nat), i ≤ n → n - i < g →
    unisonref11_Count.l0 k g (bv id m) (.int .i64 (((List.range i).countP (bitW W) : Nat) : Int)) (.int .i64 (m.length : Nat)) (.int .i64 (i : Nat)) s = some (.int .i64 (((List.range n).countP (bitW W) : Nat) : Int), s)
  | 0, i, hi, hg => by omega
  | g + 1, i, hi, hg => by
    have hs : unisonref11_Count.l0 k (g + 1) = fun x0 x3 x6 x7 s => unisonref11_Count.p4 k (unisonref11_Count.l0 k g) x0 x3 x6 x7 s := rfl
    rw [hs]
    clear hs
    simp only
    unfold unisonref11_Count.p4 unisonref11_Count.p3
    obtain ⟨hn, hM2⟩ := hM
    rw [lss_i]
    by_cases hin : i < n
    · rw [decide_eq_true (by omega), if_t]
      unfold unisonref11_Count.p2 unisonref11_Count.p1
      have hi2 : i < m.length := by omega
      obtain ⟨p1, p2⟩ := h.at hi2
      have hle := cntW_le W i
      have hw : IntKind.i64.wrap ((i : Int) + 1) = ((i + 1 : Nat) : Int) := by rw [w_i64 (by omega) (by omega)]; omega
      have hc : (List.range (i + 1)).countP (bitW W) = (List.range i).countP (bitW W) + if bitW W i then 1 else 0 := by
        rw [List.range_succ, List.countP_append]; simp [List.countP_cons]
      rw [p1, p2, hM2 i hi2]
      cases hb : bitW W i with
      | true =>
        rw [hb, if_pos rfl] at hc
        have hw2 : IntKind.i64.wrap ((((List.range i).countP (bitW W) : Nat) : Int) + 1) = (((List.range (i + 1)).countP (bitW W) : Nat) : Int) := by rw [w_i64 (by omega) (by omega)]; omega
        rw [if_t, add_i, add_i, hw, hw2]
        exact refcount_loop h ⟨hn, hM2⟩ hm k g (i + 1) (by omega) (by omega)
      | false =>
        rw [hb] at hc
        have hc : (List.range (i + 1)).countP (bitW W) = (List.range i).countP (bitW W) := hc
        rw [if_f, add_i, hw, ← hc]
        exact refcount_loop h ⟨hn, hM2⟩ hm k g (i + 1) (by omega) (by omega)
    · rw [decide_eq_false (by omega), if_f]
      unfold unisonref11_Count.p0
      rw [show i = n by omega]
theorem refcount_run (h : IsB s id m) {n : Nat} {W : List Nat} (hM : Marks m n W) (hm : m.length ≤ 1000000) (k : Nat) (hk : n < k) : rn (k + 1) 16 [bv id m] s = some (.int .i64 (((List.range n).countP (bitW W) : Nat) : Int), s) := by
  rw [unisonref11_Count.eq]
  unfold unisonref11_Count.f unisonref11_Count.p7 unisonref11_Count.p6 unisonref11_Count.p5
  rw [len_bv]
  have := refcount_loop h hM hm k k 0 (by omega) (by omega)
  simpa using this

theorem refmiss_loop {n : Nat} {W : List Nat} (hM : Marks m n W) (hm : m.length ≤ 1000000) (k lo : Nat) (a lim : Int) (hid : id < lo) : ∀ (g i : Nat) (s : Store) (v : AV) (acc : List Nat), IsB s id m → OwnV s v .i64 (ci acc) lo → lo ≤ s.next → acc.length ≤ i → i ≤ n → n - i < g →
    ∃ v' s', unisonref11_Missing.l0 k g (bv id m) (.int .i64 a) (.int .i64 lim) v (.int .i64 (m.length : Nat)) (.int .i64 (i : Nat)) s = some (v', s') ∧ OwnV s' v' .i64 (ci (acc ++ (rest W n (max i (max a 0).toNat)).take (lim - acc.length).toNat)) lo ∧ ExtLo lo s s'
  | 0, i, _, _, _, _, _, _, _, _, hg => by omega
  | g + 1, i, s, v, acc, h, hv, hlo, hai, hi, hg => by
    have hs : unisonref11_Missing.l0 k (g + 1) = fun x0 x1 x2 x7 x11 x12 s => unisonref11_Missing.p4 k (unisonref11_Missing.l0 k g) x0 x1 x2 x7 x11 x12 s := rfl
    rw [hs]
    clear hs
    simp only
    unfold unisonref11_Missing.p4 unisonref11_Missing.p3
    obtain ⟨hn, hM2⟩ := hM
    rw [lss_i]
    by_cases hin : i < n
    · rw [decide_eq_true (by omega), if_t]
      unfold unisonref11_Missing.p2 unisonref11_Missing.p1
      have hi2 : i < m.length := by omega
      obtain ⟨p1, p2⟩ := h.at hi2
      have hw : IntKind.i64.wrap ((i : Int) + 1) = ((i + 1 : Nat) : Int) := by rw [w_i64 (by omega) (by omega)]; omega
      have hlen : ∀ {α : Type} (f : AV → Option α), aLen v f = f (.int .i64 acc.length) := fun f => by rw [lenV hv.is, ci_len]
      have skip : rest W n (max i (max a 0).toNat) = rest W n (max (i + 1) (max a 0).toNat) ∨ lim ≤ acc.length → ∃ v' s', unisonref11_Missing.l0 k g (bv id m) (.int .i64 a) (.int .i64 lim) v (.int .i64 (m.length : Nat)) (.int .i64 ((i + 1 : Nat) : Int)) s = some (v', s') ∧ OwnV s' v' .i64 (ci (acc ++ (rest W n (max i (max a 0).toNat)).take (lim - acc.length).toNat)) lo ∧ ExtLo lo s s' := by
        intro e
        obtain ⟨v', s', k1, k2, k3⟩ := refmiss_loop ⟨hn, hM2⟩ hm k lo a lim hid g (i + 1) s v acc h hv hlo (by omega) (by omega) (by omega)
        refine ⟨v', s', k1, ?_, k3⟩
        rcases e with e | e
        · rw [e]; exact k2
        · rw [show (lim - (acc.length : Int)).toNat = 0 by omega, List.take_zero] at k2 ⊢
          exact k2
      by_cases hia : (i : Int) ≥ a
      · have ei : max i (max a 0).toNat = i := by omega
        have ei2 : max (i + 1) (max a 0).toNat = i + 1 := by omega
        simp only [geq_i, decide_eq_true hia, bnd, guard_tt, guard_ff, guard_tf, guard_ft, pick_t, pick_f, if_t, if_f, add_i, sub_i, lss_i, leq_i, gtr_i, geq_i, eql_i, neq_i, min_i, max_i, conv_i, len_sl, len_nil, not_b, cells_agg, new_s, fld_p, nil_p, p1, p2, hM2 i hi2]
        cases hb : bitW W i with
        | true =>
          simp only [Bool.not_true, bnd, guard_tt, guard_ff, guard_tf, guard_ft, pick_t, pick_f, if_t, if_f, add_i, sub_i, lss_i, leq_i, gtr_i, geq_i, eql_i, neq_i, min_i, max_i, conv_i, len_sl, len_nil, not_b, cells_agg, new_s, fld_p, nil_p, guard_ft, hw]
          exact skip (.inl (by rw [ei, ei2, rest_cons hin, hb]; rfl))
        | false =>
          simp only [Bool.not_false, bnd, guard_tt, guard_ff, guard_tf, guard_ft, pick_t, pick_f, if_t, if_f, add_i, sub_i, lss_i, leq_i, gtr_i, geq_i, eql_i, neq_i, min_i, max_i, conv_i, len_sl, len_nil, not_b, cells_agg, new_s, fld_p, nil_p, hlen]
          by_cases hl : (acc.length : Int) < lim
          · obtain ⟨v', s', a1, a2, a3, _⟩ := app1V (bytes := 8) hv hlo ((i : Nat) : Int) (by rw [ci_len]; omega) (by omega)
            simp only [decide_eq_true hl, bnd, guard_tt, guard_ff, guard_tf, guard_ft, pick_t, pick_f, if_t, if_f, add_i, sub_i, lss_i, leq_i, gtr_i, geq_i, eql_i, neq_i, min_i, max_i, conv_i, len_sl, len_nil, not_b, cells_agg, new_s, fld_p, nil_p, build_1, a1, hw]
            have a2' : OwnV s' v' .i64 (ci (acc ++ [i])) lo := by rw [ci_app]; exact a2
            have h' : IsB s' id m := ⟨Nat.lt_of_lt_of_le hid (Nat.le_trans hlo a3.next), (a3.get _ hid).trans h.row⟩
            obtain ⟨v2, s2, b1, b2, b3⟩ := refmiss_loop ⟨hn, hM2⟩ hm k lo a lim hid g (i + 1) s' v' (acc ++ [i]) h' a2' (Nat.le_trans hlo a3.next) (by simp; omega) (by omega) (by omega)
            refine ⟨v2, s2, b1, ?_, a3.trans b3⟩
            rw [ei2] at b2
            rw [ei, rest_cons hin, hb, if_neg (by decide), show (lim - (acc.length : Int)).toNat = (lim - ((acc ++ [i]).length : Int)).toNat + 1 by simp; omega, List.take_succ_cons]
            rw [List.append_assoc] at b2
            exact b2
          · simp only [decide_eq_false hl, bnd, guard_tt, guard_ff, guard_tf, guard_ft, pick_t, pick_f, if_t, if_f, add_i, sub_i, lss_i, leq_i, gtr_i, geq_i, eql_i, neq_i, min_i, max_i, conv_i, len_sl, len_nil, not_b, cells_agg, new_s, fld_p, nil_p, hw]
            exact skip (.inr (by omega))
      · simp only [geq_i, decide_eq_false hia, bnd, guard_tt, guard_ff, guard_tf, guard_ft, pick_t, pick_f, if_t, if_f, add_i, sub_i, lss_i, leq_i, gtr_i, geq_i, eql_i, neq_i, min_i, max_i, conv_i, len_sl, len_nil, not_b, cells_agg, new_s, fld_p, nil_p, guard_ft, hw]
        exact skip (.inl (by congr 1; omega))
    · rw [decide_eq_false (by omega), if_f]
      unfold unisonref11_Missing.p0
      exact ⟨v, s, rfl, by rw [rest_nil (by omega), List.take_nil, List.append_nil]; exact hv, ExtLo.refl _ _⟩
theorem refmiss_run (h : IsB s id m) {n : Nat} {W : List Nat} (hM : Marks m n W) (hm : m.length ≤ 1000000) (a lim : Int) (k : Nat) (hk : n < k) : ∃ v' s', rn (k + 1) 19 [bv id m, .int .i64 a, .int .i64 lim] s = some (v', s') ∧ OwnV s' v' .i64 (ci ((rest W n (max a 0).toNat).take lim.toNat)) s.next ∧ Ext s s' := by
  rw [unisonref11_Missing.eq]
  unfold unisonref11_Missing.f unisonref11_Missing.p7 unisonref11_Missing.p6 unisonref11_Missing.p5
  rw [build_0, len_bv]
  obtain ⟨v', s', b1, b2, b3⟩ := refmiss_loop hM hm k s.next a lim h.lt k 0 (s.push (.cells [] false)) (.sl s.next 0 0 1 0) [] (h.ext (Ext.push _ _)) (.inr ⟨s.next, rfl, Nat.le_refl _, Nat.lt_succ_self _, by rw [get_push, if_pos rfl]; rfl⟩) (Nat.le_succ _) (by simp) (by omega) (by omega)
  exact ⟨v', s', b1, by simpa using b2, ((Ext.push s _).lo (Nat.le_refl _) |>.trans b3).ext (Nat.le_refl _)⟩
end
end Go.Proofs.YtffememmkkopmaaDoor.Sim
