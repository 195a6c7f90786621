/- The texts B05I, B05J, B05L, B05M, B05N, B05O, B05P, one behind the other. No condition. -/
import Derived.Test.YtmaidlndikcgkaaB05H
namespace Go.Proofs.Ytmaidlndikcgkaa.Sim
set_option linter.unusedSimpArgs false

/-- Ids. -/
abbrev Idn := Int × Int
def icells (x : Idn) : List AV := [.int .u8 x.1, .int .u64 x.2]
/-- The ids of one pass. -/
def passR (p : Nat) : List Rn → List Idn
  | [] => []
  | r :: l => if (p : Int) < r.2.2 then (r.1, r.2.1 + p) :: passR p l else passR p l
/-- The ids of the passes ahead of p. -/
def ordPre : Nat → List Rn → List Idn
  | 0, _ => []
  | p + 1, l => ordPre p l ++ passR p l
/-- A copy of a thing in a row of its own. -/
theorem copy_run {s : Store} (r : Rn) : Ext s ((s.push (.cells [AV.int .u8 0, AV.int .u64 0, AV.int .u64 0] false)).set s.next (.cells (rcells r) false)) ∧ s.next < ((s.push (.cells [AV.int .u8 0, AV.int .u64 0, AV.int .u64 0] false)).set s.next (.cells (rcells r) false)).next ∧ ((s.push (.cells [AV.int .u8 0, AV.int .u64 0, AV.int .u64 0] false)).set s.next (.cells (rcells r) false)).get s.next = .cells (rcells r) false ∧
    ∀ {α : Type} (f : Store → Option α), aStore 3 (.ptr s.next 0 3) (.agg (rcells r)) (s.push (.cells [AV.int .u8 0, AV.int .u64 0, AV.int .u64 0] false)) f = f ((s.push (.cells [AV.int .u8 0, AV.int .u64 0, AV.int .u64 0] false)).set s.next (.cells (rcells r) false)) :=
  ⟨⟨by simp only [next_set, next_push]; omega, fun l hl => by grind [get_set, get_push]⟩, Nat.lt_succ_self _, by rw [get_set, if_pos rfl], fun f => st_3 r (by rw [get_push, if_pos rfl]) rfl f⟩

theorem IsRuns.lt {s : Store} {v : AV} {l : List Rn} (h : IsRuns s v l) : ∀ a b c d f, v = .sl a b c d f → a < s.next := by
  rcases h with ⟨h, _⟩ | ⟨id, ro, h1, h2, h3⟩
  · intro a b c d f e; rw [h] at e; cases e
  · intro a b c d f e; rw [h1] at e; cases e; exact h2

section
variable {x0 : AV} {l : List Rn} {lo : Nat}

end

/-- The order of runs. -/
def orderR (l : List Rn) : List Idn := if l.any (fun r => !runOk r) = true ∨ 4096 < countR 0 l then [] else ordPre 4096 l

end Go.Proofs.Ytmaidlndikcgkaa.Sim
namespace Go.Proofs.Ytmaidlndikcgkaa.Sim
set_option linter.unusedSimpArgs false

end Go.Proofs.Ytmaidlndikcgkaa.Sim
namespace Go.Proofs.Ytmaidlndikcgkaa.Sim
set_option linter.unusedSimpArgs false

theorem runs_at {s : Store} {v : AV} {l : List Rn} (h : IsRuns s v l) {i : Nat} (hi : i < l.length) : ∃ id, v = .sl id 0 l.length 3 (l.length * 3) ∧ id < s.next ∧ AtRuns s id l := by
  rcases h with ⟨_, rfl⟩ | ⟨id, ro, h1, h2, h3⟩
  · simp at hi
  · exact ⟨id, h1, h2, ro, h3⟩
theorem load_fld {s : Store} {id : Nat} {l : List Rn} (h : AtRuns s id l) {i : Nat} (hi : i < l.length) {j : Nat} {v : AV} (hv : (rcells l[i])[j]? = some v) {α : Type} (f : AV → Option α) : aLoad1 (.ptr id (0 + i * 3 + j) (l.length * 3)) s f = f v := by
  obtain ⟨ro, h⟩ := h
  have hj : j < 3 := (List.getElem?_eq_some_iff.1 hv).1
  refine load_1 h (flat_len l) ?_
  have := flat_get l i hi
  have h2 : ((((l.map rcells).flatten.drop (i * 3)).take 3))[j]? = some v := by rw [this]; exact hv
  rw [List.getElem?_take, if_pos hj, List.getElem?_drop] at h2
  rw [Nat.zero_add]; exact h2
theorem fld_0 {s : Store} {id : Nat} {l : List Rn} (h : AtRuns s id l) {i : Nat} (hi : i < l.length) {α : Type} (f : AV → Option α) : aLoad1 (.ptr id (0 + i * 3 + 0) (l.length * 3)) s f = f (.int .u8 l[i].1) := load_fld h hi rfl f
theorem idx_r {l : List Rn} {id i : Nat} (hi : i < l.length) {α : Type} (f : AV → Option α) : aIndexSl 3 (.sl id 0 l.length 3 (l.length * 3)) (.int .i64 (i : Int)) f = f (.ptr id (0 + i * 3) (l.length * 3)) := idxL hi f
/-- An element of a slice of numbers, by a number of whatever kind. -/
theorem index_isI {s : Store} {v : AV} {k : IntKind} {xs : List Int} (h : IsSl s v k xs) {i : Int} (h0 : 0 ≤ i) (hi : i < xs.length) : ∃ p, (∀ {α : Type} (k : IntKind) (f : AV → Option α), aIndexSl 1 v (.int k i) f = f p) ∧ ∀ {α : Type} (f : AV → Option α), aLoad1 p s f = f (.int k (xs.getD i.toNat 0)) := by
  rcases h with ⟨_, h⟩ | ⟨l, ro, rfl, _, h⟩
  · subst h; simp at hi; omega
  · refine ⟨.ptr l (0 + i.toNat * 1) xs.length, fun k f => ?_, fun f => load_i h (by omega) f⟩
    rw [index_sl h0 hi]

/-- A batch, from a run on: its sender is greater than the last one. -/
def mayFrom (base : List Int) : Int → List Rn → Bool
  | _, [] => true
  | last, r :: l => runOk r && (!decide (r.1 ≤ last) && (!decide (r.1 ≥ base.length) && (decide (base.getD r.1.toNat 0 = r.2.1 - 1) && mayFrom base r.1 l)))
def mayR (base : List Int) (most : Int) (l : List Rn) : Bool := if l = [] ∨ most < 0 ∨ countR 0 l > min most 4096 then false else mayFrom base (-1) l

/-- The last sender ahead of a place. -/
def lastAt (l : List Rn) (i : Nat) : Int := if i = 0 then -1 else (l.getD (i - 1) (0, 0, 0)).1

theorem bat_may_loop (k : Nat) {x0 v : AV} {base : List Int} {l : List Rn} (hub : U base) (hw : ∀ r ∈ l, WfR r) (hb : l.length ≤ 4611686018427387904) : ∀ (n i : Nat) (s : Store), IsSl s x0 .u64 base → IsRuns s v l → i ≤ l.length → l.length - i < n →
    ∃ s', F64.l0 (k + 1) n x0 v v (.int .i64 l.length) (.int .i64 i) s = some (.bool (mayFrom base (lastAt l i) (l.drop i)), s') ∧ Ext s s'
  | 0, i, _, _, _, hi, hn => by omega
  | n + 1, i, s, h0, hv, hi, hn => by
    have hs : F64.l0 (k + 1) (n + 1) = fun x0 x2 x24 x25 x26 s => F64.p6 (k + 1) (F64.l0 (k + 1) n) x0 x2 x24 x25 x26 s := rfl
    rw [hs]
    clear hs
    simp only
    unfold F64.p6 F64.p5
    rw [lss_i]
    by_cases h : i < l.length
    · have hz : (i : Int) < (l.length : Int) := by omega
      rw [decide_eq_true hz, if_t]
      unfold F64.p4 F64.p3
      have hwi := hw _ (List.getElem_mem h)
      have hw1 : IntKind.i64.wrap ((i : Int) + 1) = ((i + 1 : Nat) : Int) := by rw [w_i64 (by omega) (by omega)]; omega
      obtain ⟨id, rfl, hid, ha⟩ := runs_at hv h
      obtain ⟨e0, n0, g0, st⟩ := copy_run (s := s) l[i]
      have hfr : 0 ≤ l[i].1 ∧ l[i].1 < 256 := hwi.1
      rw [idx_r h, load_run ha i h, new_s, show ([AV.int .u8 0, AV.int .u64 0, AV.int .u64 0] : List AV).length = 3 from rfl, st]
      generalize ((s.push (.cells [AV.int .u8 0, AV.int .u64 0, AV.int .u64 0] false)).set s.next (.cells (rcells l[i]) false)) = s0 at *
      have ha0 := ha.ext hid e0
      have hid0 := Nat.lt_of_lt_of_le hid e0.next
      generalize s.next = cp at *
      have e1' := Ext.push s0 (.cells (rcells l[i]) false)
      simp only [bnd, ld_3 g0, ident_run hwi]
      have g1 := (e1'.get cp n0).trans g0
      generalize (s0.push (.cells (rcells l[i]) false)) = s1 at *
      have e1 := e0.trans e1'
      have ha1 := ha0.ext hid0 e1'
      rw [List.drop_eq_getElem_cons h, mayFrom]
      have fail : ∃ s', F64.p2 (k + 1) (F64.l0 (k + 1) n) x0 (.sl id 0 l.length 3 (l.length * 3)) (.sl id 0 l.length 3 (l.length * 3)) (.int .i64 l.length) (.int .i64 i) (.bool true) s1 = some (.bool false, s') ∧ Ext s s' := by
        unfold F64.p2
        rw [if_t]
        exact ⟨s1, rfl, e1⟩
      have go : l[i].1 = lastAt l (i + 1) := by
        unfold lastAt
        simp [h]
      by_cases hr : runOk l[i] = true
      · have hrk := of_decide_eq_true hr
        simp only [hr, bnd, guard_tt, guard_ff, guard_tf, guard_ft, pick_t, pick_f, if_t, if_f, add_i, sub_i, lss_i, leq_i, gtr_i, geq_i, eql_i, neq_i, min_i, max_i, conv_i, len_sl, len_nil, not_b, cells_agg, new_s, fld_p, nil_p, Bool.not_true, Bool.true_and, ld_0 g1, len_is (h0.ext e1), w_i64 (show -9223372036854775808 ≤ l[i].1 by omega) (show l[i].1 < 9223372036854775808 by omega)]
        by_cases h3 : l[i].1 ≥ (base.length : Int)
        · simp only [decide_eq_true h3, bnd, guard_tt, guard_ff, guard_tf, guard_ft, pick_t, pick_f, if_t, if_f, add_i, sub_i, lss_i, leq_i, gtr_i, geq_i, eql_i, neq_i, min_i, max_i, conv_i, len_sl, len_nil, not_b, cells_agg, new_s, fld_p, nil_p, Bool.not_true, Bool.false_and, Bool.and_false]
          exact fail
        · obtain ⟨p, p1, p2⟩ := index_isI (h0.ext e1) hfr.1 (by omega)
          have hbu := hub.at l[i].1.toNat
          simp only [decide_eq_false h3, bnd, guard_tt, guard_ff, guard_tf, guard_ft, pick_t, pick_f, if_t, if_f, add_i, sub_i, lss_i, leq_i, gtr_i, geq_i, eql_i, neq_i, min_i, max_i, conv_i, len_sl, len_nil, not_b, cells_agg, new_s, fld_p, nil_p, Bool.not_false, Bool.true_and, p1, p2, ld_0 g1, ld_1 g1]
          by_cases h4 : base.getD l[i].1.toNat 0 = l[i].2.1 - 1
          · have h4' : (l[i].2.1 != IntKind.u64.wrap (base.getD l[i].1.toNat 0 + 1)) = false := by
              rw [w_u64 (by omega) (by omega)]; exact bne_eq_false_iff_eq.2 (by omega)
            simp only [h4', bnd, guard_tt, guard_ff, guard_tf, guard_ft, pick_t, pick_f, if_t, if_f, add_i, sub_i, lss_i, leq_i, gtr_i, geq_i, eql_i, neq_i, min_i, max_i, conv_i, len_sl, len_nil, not_b, cells_agg, new_s, fld_p, nil_p, decide_eq_true h4, Bool.true_and]
            by_cases hi0 : (i : Int) > 0
            · have hi1 : i - 1 < l.length := by omega
              have hs1 : IntKind.i64.wrap ((i : Int) - 1) = ((i - 1 : Nat) : Int) := by rw [w_i64 (by omega) (by omega)]; omega
              have hla : lastAt l i = l[i - 1].1 := by unfold lastAt; rw [if_neg (by omega)]; simp [hi1]
              simp only [decide_eq_true hi0, bnd, guard_tt, guard_ff, guard_tf, guard_ft, pick_t, pick_f, if_t, if_f, add_i, sub_i, lss_i, leq_i, gtr_i, geq_i, eql_i, neq_i, min_i, max_i, conv_i, len_sl, len_nil, not_b, cells_agg, new_s, fld_p, nil_p, ld_0 g1, hs1, idx_r hi1, fld_0 ha1 hi1, hla]
              by_cases h5 : l[i].1 ≤ l[i - 1].1
              · simp only [decide_eq_true h5, bnd, guard_tt, guard_ff, guard_tf, guard_ft, pick_t, pick_f, if_t, if_f, add_i, sub_i, lss_i, leq_i, gtr_i, geq_i, eql_i, neq_i, min_i, max_i, conv_i, len_sl, len_nil, not_b, cells_agg, new_s, fld_p, nil_p, Bool.not_true, Bool.false_and]
                exact fail
              · simp only [decide_eq_false h5, bnd, guard_tt, guard_ff, guard_tf, guard_ft, pick_t, pick_f, if_t, if_f, add_i, sub_i, lss_i, leq_i, gtr_i, geq_i, eql_i, neq_i, min_i, max_i, conv_i, len_sl, len_nil, not_b, cells_agg, new_s, fld_p, nil_p, Bool.not_false, Bool.true_and]
                unfold F64.p2 F64.p1
                rw [if_f, add_i, hw1]
                obtain ⟨s', k1, k2⟩ := bat_may_loop k hub hw hb n (i + 1) s1 (h0.ext e1) (hv.ext e1) (by omega) (by omega)
                exact ⟨s', by rw [k1, go], e1.trans k2⟩
            · have hla : lastAt l i = -1 := by unfold lastAt; rw [if_pos (by omega)]
              have h5 : ¬ l[i].1 ≤ -1 := by omega
              simp only [decide_eq_false hi0, bnd, guard_tt, guard_ff, guard_tf, guard_ft, pick_t, pick_f, if_t, if_f, add_i, sub_i, lss_i, leq_i, gtr_i, geq_i, eql_i, neq_i, min_i, max_i, conv_i, len_sl, len_nil, not_b, cells_agg, new_s, fld_p, nil_p, hla, decide_eq_false h5, Bool.not_false, Bool.true_and]
              unfold F64.p2 F64.p1
              rw [if_f, add_i, hw1]
              obtain ⟨s', k1, k2⟩ := bat_may_loop k hub hw hb n (i + 1) s1 (h0.ext e1) (hv.ext e1) (by omega) (by omega)
              exact ⟨s', by rw [k1, go], e1.trans k2⟩
          · have h4' : (l[i].2.1 != IntKind.u64.wrap (base.getD l[i].1.toNat 0 + 1)) = true := by
              by_cases hbig : base.getD l[i].1.toNat 0 = 18446744073709551615
              · rw [hbig]
                have : IntKind.u64.wrap (18446744073709551615 + 1) = 0 := by decide
                rw [this]; exact bne_iff_ne.2 (by omega)
              · rw [w_u64 (by omega) (by omega)]; exact bne_iff_ne.2 (by omega)
            simp only [h4', bnd, guard_tt, guard_ff, guard_tf, guard_ft, pick_t, pick_f, if_t, if_f, add_i, sub_i, lss_i, leq_i, gtr_i, geq_i, eql_i, neq_i, min_i, max_i, conv_i, len_sl, len_nil, not_b, cells_agg, new_s, fld_p, nil_p, decide_eq_false h4, Bool.false_and, Bool.and_false]
            exact fail
      · have hr' : runOk l[i] = false := by simpa using hr
        simp only [hr', bnd, guard_tt, guard_ff, guard_tf, guard_ft, pick_t, pick_f, if_t, if_f, add_i, sub_i, lss_i, leq_i, gtr_i, geq_i, eql_i, neq_i, min_i, max_i, conv_i, len_sl, len_nil, not_b, cells_agg, new_s, fld_p, nil_p, Bool.not_false, Bool.false_and]
        exact fail
    · have hz : ¬ (i : Int) < (l.length : Int) := by omega
      rw [decide_eq_false hz, if_f]
      unfold F64.p0
      exact ⟨s, by rw [List.drop_eq_nil_of_le (by omega)]; rfl, Ext.refl _⟩

theorem bat_may {s : Store} {x0 v : AV} {base : List Int} {most : Int} {l : List Rn} (h0 : IsSl s x0 .u64 base) (hl : IsRuns s v l) (hub : U base) (hw : ∀ r ∈ l, WfR r) (hm : most < 9223372036854775808) (k : Nat) (hb : l.length ≤ k) (hk : k ≤ 1000000000) :
    ∃ s', rn (k + 4) 64 [x0, .int .i64 most, v] s = some (.bool (mayR base most l), s') ∧ Ext s s' := by
  rw [F64.eq]
  unfold F64.f F64.p9 F64.p8 mayR
  rw [len_runs hl, eql_i]
  by_cases h1 : l = []
  · subst h1
    simp only [List.length_nil, Int.natCast_zero, beq_self_eq_true, bnd, guard_tt, guard_ff, guard_tf, guard_ft, pick_t, pick_f, if_t, if_f, add_i, sub_i, lss_i, leq_i, gtr_i, geq_i, eql_i, neq_i, min_i, max_i, conv_i, len_sl, len_nil, not_b, cells_agg, new_s, fld_p, nil_p, true_or, if_true]
    exact ⟨s, rfl, Ext.refl _⟩
  · have h1' : (((l.length : Nat) : Int) == 0) = false := by
      have : l.length ≠ 0 := fun q => h1 (List.length_eq_zero_iff.1 q)
      simp; omega
    by_cases h2 : most < 0
    · rw [if_pos (.inr (.inl h2))]
      simp only [h1', decide_eq_true h2, bnd, guard_tt, guard_ff, guard_tf, guard_ft, pick_t, pick_f, if_t, if_f, add_i, sub_i, lss_i, leq_i, gtr_i, geq_i, eql_i, neq_i, min_i, max_i, conv_i, len_sl, len_nil, not_b, cells_agg, new_s, fld_p, nil_p]
      exact ⟨s, rfl, Ext.refl _⟩
    · have hiff : (l = [] ∨ most < 0 ∨ countR 0 l > min most 4096) ↔ countR 0 l > min most 4096 := by simp [h1, h2]
      simp only [h1', hiff, bnd, guard_tt, guard_ff, guard_tf, guard_ft, pick_t, pick_f, if_t, if_f, add_i, sub_i, lss_i, leq_i, gtr_i, geq_i, eql_i, neq_i, min_i, max_i, conv_i, len_sl, len_nil, not_b, cells_agg, new_s, fld_p, nil_p]
      obtain ⟨s1, k1, e1⟩ := ident_count hl hw (k + 1) (by omega) (by omega)
      have k1' : rn (k + 3) 74 [v] s = some (.int .u64 (countR 0 l), s1) := k1
      simp only [decide_eq_false h2, bnd, guard_tt, guard_ff, guard_tf, guard_ft, pick_t, pick_f, if_t, if_f, add_i, sub_i, lss_i, leq_i, gtr_i, geq_i, eql_i, neq_i, min_i, max_i, conv_i, len_sl, len_nil, not_b, cells_agg, new_s, fld_p, nil_p, k1', w_u64 (show 0 ≤ min most 4096 by omega) (show min most 4096 < 18446744073709551616 by omega)]
      by_cases h3 : countR 0 l > min most 4096
      · rw [decide_eq_true h3, if_pos h3, if_t]
        exact ⟨s1, rfl, e1⟩
      · rw [decide_eq_false h3, if_neg h3, if_f]
        unfold F64.p7
        rw [len_runs (hl.ext e1)]
        obtain ⟨s2, k2, e2⟩ := bat_may_loop (k + 2) hub hw (by omega) (k + 3) 0 s1 (h0.ext e1) (hl.ext e1) (by omega) (by omega)
        rw [Int.natCast_zero, List.drop_zero] at k2
        exact ⟨s2, k2, e1.trans e2⟩
end Go.Proofs.Ytmaidlndikcgkaa.Sim
namespace Go.Proofs.Ytmaidlndikcgkaa.Sim
set_option linter.unusedSimpArgs false
set_option linter.unusedVariables false

/-- Numbers in a row of one's own, that lies behind 'lo', if there is one. -/
def OwnN (s : Store) (v : AV) (xs : List Int) (lo : Nat) : Prop := (v = .nilsl ∧ xs = []) ∨ ∃ id, v = .sl id 0 xs.length 1 xs.length ∧ lo ≤ id ∧ id < s.next ∧ s.get id = .cells (xs.map (.int .u64)) false
theorem OwnN.is {s : Store} {v : AV} {xs : List Int} {lo : Nat} (h : OwnN s v xs lo) : IsSl s v .u64 xs := by
  rcases h with h | ⟨id, h1, _, h2, h3⟩
  · exact .inl h
  · exact .inr ⟨id, false, h1, h2, h3⟩
theorem OwnN.ext {s s' : Store} {v : AV} {xs : List Int} {lo : Nat} (h : OwnN s v xs lo) (e : Ext s s') : OwnN s' v xs lo := by
  rcases h with h | ⟨id, h1, h4, h2, h3⟩
  · exact .inl h
  · exact .inr ⟨id, h1, h4, Nat.lt_of_lt_of_le h2 e.next, by rw [e.get id h2]; exact h3⟩
theorem IsSl.lt {s : Store} {v : AV} {k : IntKind} {xs : List Int} (h : IsSl s v k xs) : ∀ a b c d f, v = .sl a b c d f → a < s.next := by
  rcases h with ⟨h, _⟩ | ⟨id, ro, h1, h2, h3⟩
  · intro a b c d f e; rw [h] at e; cases e
  · intro a b c d f e; rw [h1] at e; cases e; exact h2

/-- append([]uint64{}, x..). -/
theorem own_copy {s : Store} {v : AV} {xs : List Int} (h : IsSl s v .u64 xs) (hb : xs.length ≤ 1000000) : ∃ s', (∀ f : AV → Store → Option (AV × Store), aAppend 1 8 (.sl s.next 0 0 1 0) v (s.push (.cells [] false)) f = f (.sl s.next 0 xs.length 1 xs.length) s') ∧ s'.get s.next = .cells (xs.map (.int .u64)) false ∧ s.next < s'.next ∧ Ext s s' := by
  have := fun f => app_nums (α := AV × Store) (s := s.push (.cells [] false)) (id := s.next) (bytes := 8) (k := .u64) (xs := []) (by grind [get_push]) (h.ext (Ext.push s _)) (by simp; omega) (by omega) f
  simp only [List.length_nil, List.nil_append] at this
  exact ⟨_, this, by rw [get_set, if_pos rfl], by simp only [next_set, next_push]; omega, ⟨by simp only [next_set, next_push]; omega, fun l hl => by grind [get_set, get_push]⟩⟩

theorem clone_u64 {s : Store} {v : AV} {xs : List Int} (h : IsSl s v .u64 xs) (hb : xs.length ≤ 1000000) (k : Nat) : ∃ v' s', rn (k + 1) 33 [v] s = some (v', s') ∧ OwnN s' v' xs s.next ∧ Ext s s' := by
  rw [F33.eq]
  unfold F33.f F33.p0
  obtain ⟨s1, k1, k2, k3, k4⟩ := own_copy h hb
  rcases h with ⟨rfl, rfl⟩ | ⟨id, ro, rfl, h2, h3⟩
  · exact ⟨.nilsl, s, rfl, .inl ⟨rfl, rfl⟩, Ext.refl _⟩
  · simp only [aEq, bnd, guard_tt, guard_ff, guard_tf, guard_ft, pick_t, pick_f, if_t, if_f, add_i, sub_i, lss_i, leq_i, gtr_i, geq_i, eql_i, neq_i, min_i, max_i, conv_i, len_sl, len_nil, not_b, cells_agg, new_s, fld_p, nil_p]
    rw [show (fun c2 => aAppend 1 8 (.sl s.next 0 0 1 0) (.sl id 0 xs.length 1 xs.length) (s.push (.cells c2 false)) fun v3 s4 => some (v3, s4)) = _ from rfl]
    have e : ∀ f : List AV → Option (AV × Store), aBuild [] [] f = f [] := fun _ => rfl
    rw [e, k1]
    exact ⟨_, s1, rfl, .inr ⟨s.next, rfl, Nat.le_refl _, k3, k2⟩, k4⟩

/-- A run's last number. -/
def lastR (r : Rn) : Int := r.2.1 + (r.2.2 - 1)
theorem lastR_bnd {r : Rn} (hw : WfR r) (h : runOk r = true) : 1 ≤ lastR r ∧ lastR r ≤ 4611686018427387904 ∧ r.2.1 - 1 + r.2.2 = lastR r := by
  have := of_decide_eq_true h; unfold lastR; have := hw; omega
theorem bat_last {s : Store} {r : Rn} (hw : WfR r) (h : runOk r = true) (k : Nat) : rn (k + 1) 69 [.agg (rcells r)] s = some (.int .u64 (lastR r), s.push (.cells (rcells r) false)) := by
  rw [F69.eq]
  unfold F69.f F69.p0
  have g : (s.push (.cells (rcells r) false)).get s.next = .cells (rcells r) false := by rw [get_push, if_pos rfl]
  have hr := of_decide_eq_true h
  have e : r.2.1 + r.2.2 - 1 = lastR r := by unfold lastR; omega
  have ew : IntKind.u64.wrap (lastR r) = lastR r := by rw [← e, w_u64 (by omega) (by omega)]
  simp only [bnd, guard_tt, guard_ff, guard_tf, guard_ft, pick_t, pick_f, if_t, if_f, add_i, sub_i, lss_i, leq_i, gtr_i, geq_i, eql_i, neq_i, min_i, max_i, conv_i, len_sl, len_nil, not_b, cells_agg, new_s, fld_p, nil_p, r_len, ld_1 g, ld_2 g, w_u64 (show 0 ≤ r.2.1 + r.2.2 by omega) (show r.2.1 + r.2.2 < 18446744073709551616 by omega), e, ew]

/-- The base behind runs. -/
def setR (b : List Int) (r : Rn) : List Int := b.set r.1.toNat (lastR r)
theorem mayFrom_set {b : List Int} (j : Nat) (v : Int) : ∀ (l : List Rn) (last : Int), (j : Int) ≤ last → mayFrom b last l = true → mayFrom (b.set j v) last l = true
  | [], _, _, _ => rfl
  | r :: l, last, hj, h => by
    unfold mayFrom at h ⊢
    simp only [Bool.and_eq_true, Bool.not_eq_true', decide_eq_true_eq, decide_eq_false_iff_not, List.length_set] at h ⊢
    obtain ⟨h1, h2, h3, h4, h5⟩ := h
    refine ⟨h1, h2, h3, ?_, mayFrom_set j v l r.1 (by omega) h5⟩
    rw [← h4]
    simp only [List.getD_eq_getElem?_getD, List.getElem?_set]
    rw [if_neg (by omega)]
theorem mayFrom_cons {b : List Int} {last : Int} {r : Rn} {l : List Rn} (hl : -1 ≤ last) (h : mayFrom b last (r :: l) = true) : runOk r = true ∧ last < r.1 ∧ r.1 < b.length ∧ b.getD r.1.toNat 0 = r.2.1 - 1 ∧ mayFrom (setR b r) r.1 l = true := by
  unfold mayFrom at h
  simp only [Bool.and_eq_true, Bool.not_eq_true', decide_eq_true_eq, decide_eq_false_iff_not] at h
  obtain ⟨h1, h2, h3, h4, h5⟩ := h
  exact ⟨h1, by omega, by omega, h4, mayFrom_set _ _ l r.1 (by omega) h5⟩
def afterR (base : List Int) (l : List Rn) : List Int := if mayR base 4096 l = true then l.foldl setR base else base
theorem setR_len (b : List Int) (r : Rn) : (setR b r).length = b.length := by simp [setR]
theorem foldR_len : ∀ (l : List Rn) (b : List Int), (l.foldl setR b).length = b.length
  | [], _ => rfl
  | r :: l, b => by rw [List.foldl_cons, foldR_len l, setR_len]
theorem foldR_U : ∀ {l : List Rn} {b : List Int} {last : Int}, -1 ≤ last → (∀ r ∈ l, WfR r) → mayFrom b last l = true → U b → U (l.foldl setR b)
  | [], _, _, _, _, _, hu => hu
  | r :: l, b, last, hl, hw, h, hu => by
    obtain ⟨h1, h2, h3, h4, h5⟩ := mayFrom_cons hl h
    have hb := lastR_bnd (hw r List.mem_cons_self) h1
    refine foldR_U (l := l) (b := setR b r) (last := r.1) (by omega) (fun x hx => hw x (List.mem_cons_of_mem _ hx)) h5 fun x hx => ?_
    rcases List.mem_or_eq_of_mem_set hx with hx | hx
    · exact hu x hx
    · subst hx; omega
theorem afterR_len (b : List Int) (l : List Rn) : (afterR b l).length = b.length := by unfold afterR; split <;> simp [foldR_len]
theorem mayR_from {b : List Int} {most : Int} {l : List Rn} (h : mayR b most l = true) : mayFrom b (-1) l = true := by
  unfold mayR at h
  split at h
  · cases h
  · exact h

section
variable {v : AV} {l : List Rn} {lo ido : Nat}

end

/-- A run that isn't held. -/
def badR (held : List Int) (r : Rn) : Bool := !runOk r || decide (atI held r.1 < lastR r)

theorem held_1 {s : Store} {x0 : AV} {cap : Nat} {held : List Int} {r : Rn} (hr : WfR r) (h0 : IsSl s x0 .u64 held) (hc : s.get cap = .cells [x0] false) (hcl : cap < s.next) (hhl : held.length ≤ 1000000) (k : Nat) : ∃ s', rn (k + 2) 66 ([] ++ [.agg (rcells r)] ++ [.ptr cap 0 1]) s = some (.bool (badR held r), s') ∧ Ext s s' := by
  simp only [List.nil_append, List.cons_append]
  rw [F66.eq]
  unfold F66.f F66.p2 F66.p1 F66.p0
  have g : (s.push (.cells (rcells r) false)).get s.next = .cells (rcells r) false := by rw [get_push, if_pos rfl]
  have e1 := Ext.push s (.cells (rcells r) false)
  have n1 : s.next < (s.push (.cells (rcells r) false)).next := Nat.lt_succ_self _
  simp only [cells_agg, new_s, r_len]
  generalize s.push (.cells (rcells r) false) = s1 at *
  have e2 := Ext.push s1 (.cells (rcells r) false)
  simp only [bnd, guard_tt, guard_ff, guard_tf, guard_ft, pick_t, pick_f, if_t, if_f, add_i, sub_i, lss_i, leq_i, gtr_i, geq_i, eql_i, neq_i, min_i, max_i, conv_i, len_sl, len_nil, not_b, cells_agg, new_s, fld_p, nil_p, ld_3 g, ident_run hr]
  have g2 := (e2.get _ n1).trans g
  have n2 := Nat.lt_of_lt_of_le n1 e2.next
  generalize s1.push (.cells (rcells r) false) = s2 at *
  have e12 := e1.trans e2
  by_cases hk : runOk r = true
  · have hld : ∀ {α : Type} (f : AV → Option α), aLoad1 (.ptr cap 0 1) s2 f = f x0 := fun f => load_1 ((e12.get cap hcl).trans hc) rfl rfl
    have hrr := hr.1
    simp only [hk, Bool.not_true, bnd, guard_tt, guard_ff, guard_tf, guard_ft, pick_t, pick_f, if_t, if_f, add_i, sub_i, lss_i, leq_i, gtr_i, geq_i, eql_i, neq_i, min_i, max_i, conv_i, len_sl, len_nil, not_b, cells_agg, new_s, fld_p, nil_p, hld, ld_0 g2, ld_3 g2, w_i64 (show -9223372036854775808 ≤ r.1 by omega) (show r.1 < 9223372036854775808 by omega), vec_at (h0.ext e12) (show (held.length : Int) < 9223372036854775808 by omega), aSame_self, bat_last hr hk]
    have eb : badR held r = decide (atI held r.1 < lastR r) := by unfold badR; rw [hk]; rfl
    rw [eb]
    exact ⟨_, rfl, e12.trans (Ext.push _ _)⟩
  · have hk' : runOk r = false := by simpa using hk
    have eb : badR held r = true := by unfold badR; rw [hk']; rfl
    have hsk : ∀ (v : AV) (x : Option (AV × Store)), aSame v v x = x := fun v x => aSame_self v x
    simp only [hk', Bool.not_false, bnd, guard_tt, guard_ff, guard_tf, guard_ft, pick_t, pick_f, if_t, if_f, add_i, sub_i, lss_i, leq_i, gtr_i, geq_i, eql_i, neq_i, min_i, max_i, conv_i, len_sl, len_nil, not_b, cells_agg, new_s, fld_p, nil_p, hsk, eb]
    exact ⟨s2, rfl, e12⟩

theorem cells_sl {s : Store} {v : AV} {k : IntKind} {xs : List Int} (h : IsSl s v k xs) {α : Type} (f : List AV → Option α) : aCells v f = f [v] := by
  rcases h with ⟨rfl, _⟩ | ⟨_, _, rfl, _⟩ <;> rfl

theorem bat_held {s : Store} {x0 v : AV} {held : List Int} {l : List Rn} (h0 : IsSl s x0 .u64 held) (hl : IsRuns s v l) (hw : ∀ r ∈ l, WfR r) (hhl : held.length ≤ 1000000) (k : Nat) (hb : l.length < k) (hk : k ≤ 1000000000) :
    ∃ s', rn (k + 5) 53 [x0, v] s = some (.bool (!(l.any (badR held))), s') ∧ Ext s s' := by
  rw [F53.eq]
  unfold F53.f F53.p0
  rw [cells_sl h0, new_s]
  have e1 := Ext.push s (.cells [x0] false)
  have g1 : (s.push (.cells [x0] false)).get s.next = .cells [x0] false := by rw [get_push, if_pos rfl]
  have n1 : s.next < (s.push (.cells [x0] false)).next := Nat.lt_succ_self _
  generalize s.push (.cells [x0] false) = s1 at *
  generalize s.next = cp at *
  obtain ⟨s2, k2, e2⟩ := contains_func (k + 2) 66 [.ptr cp 0 1] (badR held) (fun s => IsSl s x0 .u64 held ∧ s.get cp = .cells [x0] false ∧ cp < s.next) (fun s s' h e => ⟨h.1.ext e, (e.get cp h.2.2).trans h.2.1, Nat.lt_of_lt_of_le h.2.2 e.next⟩) (fun s r hr h => held_1 hr h.1 h.2.1 h.2.2 hhl k) (s := s1) (v := v) (l := l) ⟨h0.ext e1, g1, n1⟩ (hl.ext e1) hw (by omega) (by omega)
  have k2' : rn (k + 4) 65 [v, .func 66 [] [.ptr cp 0 1]] s1 = some (.bool (l.any (badR held)), s2) := k2
  rw [show ([x0] : List AV).length = 1 from rfl, k2', bnd, not_b]
  exact ⟨s2, rfl, e1.trans e2⟩

end Go.Proofs.Ytmaidlndikcgkaa.Sim
namespace Go.Proofs.Ytmaidlndikcgkaa.Sim
set_option linter.unusedSimpArgs false
set_option linter.unusedVariables false

section
variable {x0 : AV} {l : List Rn} {lo : Nat}

end

end Go.Proofs.Ytmaidlndikcgkaa.Sim
namespace Go.Proofs.Ytmaidlndikcgkaa.Sim
set_option linter.unusedSimpArgs false
set_option linter.unusedVariables false

end Go.Proofs.Ytmaidlndikcgkaa.Sim
namespace Go.Proofs.Ytmaidlndikcgkaa.Sim
set_option linter.unusedSimpArgs false
set_option linter.unusedVariables false

theorem passR_wf (p : Nat) (hp : p ≤ 5000) : ∀ {l : List Rn}, (∀ r ∈ l, WfR r) → (∀ r ∈ l, runOk r = true) → ∀ x ∈ passR p l, (0 ≤ x.1 ∧ x.1 < 256) ∧ (0 ≤ x.2 ∧ x.2 < 18446744073709551616)
  | [], _, _, x, hx => by simp [passR] at hx
  | r :: l, hw, hok, x, hx => by
    have h1 := hw r List.mem_cons_self
    have h2 := of_decide_eq_true (hok r List.mem_cons_self)
    have ih := fun x hx => passR_wf p hp (l := l) (fun r hr => hw r (List.mem_cons_of_mem _ hr)) (fun r hr => hok r (List.mem_cons_of_mem _ hr)) x hx
    unfold passR at hx
    split at hx
    · rcases List.mem_cons.1 hx with rfl | hx
      · exact ⟨h1.1, by simp only; omega⟩
      · exact ih x hx
    · exact ih x hx
theorem ordPre_wf {l : List Rn} (hw : ∀ r ∈ l, WfR r) (hok : ∀ r ∈ l, runOk r = true) : ∀ (p : Nat), p ≤ 5000 → ∀ x ∈ ordPre p l, (0 ≤ x.1 ∧ x.1 < 256) ∧ (0 ≤ x.2 ∧ x.2 < 18446744073709551616)
  | 0, _, x, hx => by simp [ordPre] at hx
  | p + 1, hp, x, hx => by
    rcases List.mem_append.1 hx with hx | hx
    · exact ordPre_wf hw hok p (by omega) x hx
    · exact passR_wf p (by omega) hw hok x hx
theorem orderR_wf {l : List Rn} (hw : ∀ r ∈ l, WfR r) : ∀ x ∈ orderR l, (0 ≤ x.1 ∧ x.1 < 256) ∧ (0 ≤ x.2 ∧ x.2 < 18446744073709551616) := by
  unfold orderR
  split
  · intro x hx; simp at hx
  · rename_i h
    have h1 : ¬ l.any (fun r => !runOk r) = true := fun q => h (.inl q)
    have h1' : l.any (fun r => !runOk r) = false := by simpa using h1
    exact ordPre_wf hw (fun r hr => by have := List.any_eq_false.1 h1' r hr; simpa using this) 4096 (by omega)

end Go.Proofs.Ytmaidlndikcgkaa.Sim
