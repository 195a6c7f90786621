/- Seat 01: the law NumPuts, its run. No condition. -/
import Derived.Test.YtppaefjgkocakaaSpB
import Derived.Test.YtppaefjgkocakaaSimQ
namespace Go.Proofs.Ytppaefjgkocakaa.Sim
set_option linter.unusedSimpArgs false
set_option linter.unusedVariables false

/-- All rows but two are as they were. -/
structure Fr2 (a : Nat) (s s' : Store) : Prop where
  next : s.next ≤ s'.next
  get : ∀ l, l < s.next → l ≠ a → l ≠ a + 1 → s'.get l = s.get l
theorem Fr2.refl (a : Nat) (s : Store) : Fr2 a s s := ⟨Nat.le_refl _, fun _ _ _ _ => rfl⟩
theorem Fr2.trans {a : Nat} {s s' s'' : Store} (h : Fr2 a s s') (k : Fr2 a s' s'') : Fr2 a s s'' := ⟨Nat.le_trans h.next k.next, fun l hl h1 h2 => (k.get l (Nat.lt_of_lt_of_le hl h.next) h1 h2).trans (h.get l hl h1 h2)⟩
theorem Ext.fr2 {s s' : Store} (h : Ext s s') (a : Nat) : Fr2 a s s' := ⟨h.next, fun l hl _ _ => h.get l hl⟩
theorem Fr2.ext {a : Nat} {s0 s s' : Store} (e : Ext s0 s) (h : Fr2 a s s') (ha : s0.next ≤ a) : Ext s0 s' := ⟨Nat.le_trans e.next h.next, fun l hl => (h.get l (Nat.lt_of_lt_of_le hl e.next) (by omega) (by omega)).trans (e.get l hl)⟩
def offX (a : Nat) (v : AV) : Prop := ∀ i b c d f, v = .sl i b c d f → i ≠ a ∧ i ≠ a + 1
theorem IsV.fr2 {a : Nat} {s s' : Store} {v : AV} {k : IntKind} {xs : List Int} (h : IsV s v k xs) (e : Fr2 a s s') (hx : offX a v) : IsV s' v k xs := by
  rcases h with h | ⟨l, off, ys, ro, h1, h2, h3, h4⟩
  · exact .inl h
  · obtain ⟨x1, x2⟩ := hx _ _ _ _ _ h1
    exact .inr ⟨l, off, ys, ro, h1, Nat.lt_of_lt_of_le h2 e.next, by rw [e.get l h2 x1 x2]; exact h3, h4⟩
def EachX (a : Nat) (s : Store) (hs : List AV) (rows : List (List Int)) : Prop := Each s hs rows ∧ ∀ h ∈ hs, offX a h
theorem EachX.fr2 {a : Nat} {s s' : Store} {hs : List AV} {rows : List (List Int)} (h : EachX a s hs rows) (e : Fr2 a s s') : EachX a s' hs rows :=
  ⟨⟨h.1.1, fun i x r h1 h2 => (h.1.2 i x r h1 h2).fr2 e (h.2 x (List.mem_of_getElem? h1))⟩, h.2⟩
theorem EachX.snoc {a : Nat} {s : Store} {hs : List AV} {rows : List (List Int)} {v : AV} {r : List Int} (h : EachX a s hs rows) (hv : IsV s v .u8 r) (hx : offX a v) : EachX a s (hs ++ [v]) (rows ++ [r]) := by
  refine ⟨⟨by simp [h.1.1], fun i x y h1 h2 => ?_⟩, fun x hx' => ?_⟩
  · by_cases hi : i < hs.length
    · rw [List.getElem?_append_left hi] at h1
      rw [List.getElem?_append_left (by rw [← h.1.1]; exact hi)] at h2
      exact h.1.2 i x y h1 h2
    · have hlt := (List.getElem?_eq_some_iff.1 h1).1
      simp at hlt
      have e : i = hs.length := by omega
      subst e
      rw [List.getElem?_append_right (Nat.le_refl _), Nat.sub_self] at h1
      rw [List.getElem?_append_right (by rw [h.1.1]; exact Nat.le_refl _), h.1.1, Nat.sub_self] at h2
      obtain rfl := Option.some.inj h1
      obtain rfl := Option.some.inj h2
      exact hv
  · rcases List.mem_append.1 hx' with q | q
    · exact h.2 x q
    · rw [List.mem_singleton.1 q]; exact hx

/-- A header more, in a row that is there. -/
theorem app_hd {s : Store} {id : Nat} {hs : List AV} (hg : s.get id = .cells hs false) (hid : id < s.next) (v : AV) (hb : (hs.length + 1) * 24 ≤ 140737488355328) {α : Type} (f : AV → Store → Option α) :
    aAppend 1 24 (.sl id 0 hs.length 1 hs.length) (.sl s.next 0 1 1 1) (s.push (.cells [v] false)) f = f (.sl id 0 (hs ++ [v]).length 1 (hs ++ [v]).length) ((s.push (.cells [v] false)).set id (.cells (hs ++ [v]) false)) := by
  have hne : id ≠ s.next := by omega
  have g1 : (s.push (.cells [v] false)).get id = .cells hs false := by rw [get_push, if_neg hne]; exact hg
  have g2 : (s.push (.cells [v] false)).get s.next = .cells [v] false := by rw [get_push, if_pos rfl]
  simp [aAppend, aCellsOf, aRow, aOwn, g1, g2, hb]
theorem build_h {s : Store} {v : AV} {k : IntKind} {xs : List Int} (h : IsV s v k xs) {α : Type} (f : List AV → Option α) : aBuild [(0, 1, v)] [.nilsl] f = f [v] := by
  simp only [aBuild, cellsV h]
  simp [putAll]

section
variable {x0 x1 x2 x7 : AV} {a : Nat} {s0 : Store}

theorem puts_nums (k : Nat) (hk : 20 ≤ k) (hk2 : k ≤ 100000) {l : List Int} (h1 : IsV s0 x1 .u64 l) (hl : l.length ≤ 60) (hu : ∀ x ∈ l, 0 ≤ x ∧ x < 18446744073709551616) (ha : s0.next ≤ a) {x9 : AV} : ∀ (n i : Nat) (s : Store) (hs : List AV) (rows : List (List Int)), Ext s0 s → a + 1 < s.next → s.get a = .cells hs false → EachX a s hs rows → hs.length + (l.length - i) ≤ 1000 → i ≤ l.length → l.length - i < n →
    ∃ hs' s', unisonlaw01_NumPuts.l1 (k + 1) n x0 x1 x2 x7 (.sl a 0 hs.length 1 hs.length) x9 (.int .i64 i) s = unisonlaw01_NumPuts.p6 (k + 1) x0 x1 x2 x7 (.sl a 0 hs'.length 1 hs'.length) x9 s' ∧ s'.get a = .cells hs' false ∧ EachX a s' hs' (rows ++ (l.drop i).map numB) ∧ Fr2 a s s' ∧ s'.get (a + 1) = s.get (a + 1)
  | 0, i, _, _, _, _, _, _, _, _, hi, hn => by omega
  | n + 1, i, s, hs, rows, e, han, hg, he, hb, hi, hn => by
    have hst : unisonlaw01_NumPuts.l1 (k + 1) (n + 1) = fun x0 x1 x2 x7 x8 x9 x10 s => unisonlaw01_NumPuts.p9 (k + 1) (unisonlaw01_NumPuts.l1 (k + 1) n) x0 x1 x2 x7 x8 x9 x10 s := rfl
    rw [hst]
    clear hst
    simp only
    unfold unisonlaw01_NumPuts.p9
    rw [lenV (h1.ext e), lss_i]
    by_cases h : i < l.length
    · have hz : (i : Int) < (l.length : Int) := by omega
      rw [decide_eq_true hz, if_t]
      unfold unisonlaw01_NumPuts.p8 unisonlaw01_NumPuts.p7
      have hw1 : IntKind.i64.wrap ((i : Int) + 1) = ((i + 1 : Nat) : Int) := by rw [w_i64 (by omega) (by omega)]; omega
      obtain ⟨p, p1, p2⟩ := atV (h1.ext e) (show (0 : Int) ≤ i by omega) hz
      have hux := hu _ (List.getElem_mem h)
      have eg : l.getD (i : Int).toNat 0 = l[i] := by simp [h]
      obtain ⟨v1, s1, k1, k2, k3⟩ := rnum_run (s := s) hux.1 hux.2 k hk hk2
      rw [p1, p2, eg, k1, bnd, build_h k2.is]
      simp only
      have hg1 : s1.get a = .cells hs false := (k3.get a (by omega)).trans hg
      have hn1 := k3.next
      rw [app_hd hg1 (by omega) v1 (by omega), add_i, hw1]
      have hoff : offX a v1 := fun j b c d f hj => by
        rcases k2 with ⟨q, _⟩ | ⟨id, q, i1, i2, _⟩
        · rw [q] at hj; cases hj
        · rw [q] at hj; cases hj; omega
      have f1 : Fr2 a s1 ((s1.push (.cells [v1] false)).set a (.cells (hs ++ [v1]) false)) := ⟨by simp only [next_set, next_push]; omega, fun j hj q1 q2 => by grind [get_set, get_push]⟩
      have f2 := (k3.fr2 a).trans f1
      obtain ⟨hs', s', g1, g2, g3, g4, g5⟩ := puts_nums k hk hk2 h1 hl hu ha (x9 := x9) n (i + 1) ((s1.push (.cells [v1] false)).set a (.cells (hs ++ [v1]) false)) (hs ++ [v1]) (rows ++ [numB l[i]]) (f2.ext e ha) (by simp only [next_set, next_push]; omega) (by rw [get_set, if_pos rfl]) (((he.fr2 (k3.fr2 a)).snoc k2.is hoff).fr2 f1) (by simp; omega) (by omega) (by omega)
      refine ⟨hs', s', g1, g2, ?_, f2.trans g4, ?_⟩
      · rw [List.drop_eq_getElem_cons h, List.map_cons, List.append_cons]; exact g3
      · rw [g5]
        have : s1.get (a + 1) = s.get (a + 1) := k3.get (a + 1) han
        rw [← this]
        grind [get_set, get_push]
    · have hz : ¬ (i : Int) < (l.length : Int) := by omega
      rw [decide_eq_false hz, if_f, List.drop_eq_nil_of_le (by omega)]
      exact ⟨hs, s, rfl, hg, by simpa using he, Fr2.refl _ _, rfl⟩

theorem puts_texts (k : Nat) (hk : 20 ≤ k) (hk2 : k ≤ 100000) {l : List (List Int)} (h2 : IsVV s0 x2 l) (hl : l.length ≤ 60) (hr : ∀ r ∈ l, r.length ≤ 300) (ha : s0.next ≤ a) {x8 : AV} : ∀ (n i : Nat) (s : Store) (hs : List AV) (rows : List (List Int)), Ext s0 s → a + 1 < s.next → s.get (a + 1) = .cells hs false → EachX a s hs rows → hs.length + (l.length - i) ≤ 1000 → i ≤ l.length → l.length - i < n →
    ∃ hs' s', unisonlaw01_NumPuts.l0 (k + 2) n x0 x1 x2 x7 x8 (.sl (a + 1) 0 hs.length 1 hs.length) (.int .i64 i) s = unisonlaw01_NumPuts.p2 (k + 2) x0 x1 x2 x7 x8 (.sl (a + 1) 0 hs'.length 1 hs'.length) s' ∧ s'.get (a + 1) = .cells hs' false ∧ EachX a s' hs' (rows ++ (l.drop i).map rowB) ∧ Fr2 a s s' ∧ s'.get a = s.get a
  | 0, i, _, _, _, _, _, _, _, _, hi, hn => by omega
  | n + 1, i, s, hs, rows, e, han, hg, he, hb, hi, hn => by
    have hst : unisonlaw01_NumPuts.l0 (k + 2) (n + 1) = fun x0 x1 x2 x7 x8 x9 x11 s => unisonlaw01_NumPuts.p5 (k + 2) (unisonlaw01_NumPuts.l0 (k + 2) n) x0 x1 x2 x7 x8 x9 x11 s := rfl
    rw [hst]
    clear hst
    simp only
    unfold unisonlaw01_NumPuts.p5
    rw [lenVV (h2.ext e), lss_i]
    by_cases h : i < l.length
    · have hz : (i : Int) < (l.length : Int) := by omega
      rw [decide_eq_true hz, if_t]
      unfold unisonlaw01_NumPuts.p4 unisonlaw01_NumPuts.p3
      have hw1 : IntKind.i64.wrap ((i : Int) + 1) = ((i + 1 : Nat) : Int) := by rw [w_i64 (by omega) (by omega)]; omega
      obtain ⟨p, hh, p1, p2, p3⟩ := atVV h2 h
      have hrl := hr _ (List.getElem_mem h)
      obtain ⟨v1, s1, k1, k2, k3⟩ := rrow_run (p3.ext e) (by omega) k hk hk2
      rw [p1, p2 e, k1, bnd, build_h k2.is]
      simp only
      have hg1 : s1.get (a + 1) = .cells hs false := (k3.get (a + 1) (by omega)).trans hg
      have hn1 := k3.next
      rw [app_hd hg1 (by omega) v1 (by omega), add_i, hw1]
      have hoff : offX a v1 := fun j b c d f hj => by
        rcases k2 with ⟨q, _⟩ | ⟨id, q, i1, i2, _⟩
        · rw [q] at hj; cases hj
        · rw [q] at hj; cases hj; omega
      have f1 : Fr2 a s1 ((s1.push (.cells [v1] false)).set (a + 1) (.cells (hs ++ [v1]) false)) := ⟨by simp only [next_set, next_push]; omega, fun j hj q1 q2 => by grind [get_set, get_push]⟩
      have f2 := (k3.fr2 a).trans f1
      obtain ⟨hs', s', g1, g2, g3, g4, g5⟩ := puts_texts k hk hk2 h2 hl hr ha (x8 := x8) n (i + 1) ((s1.push (.cells [v1] false)).set (a + 1) (.cells (hs ++ [v1]) false)) (hs ++ [v1]) (rows ++ [rowB l[i]]) (f2.ext e ha) (by simp only [next_set, next_push]; omega) (by rw [get_set, if_pos rfl]) (((he.fr2 (k3.fr2 a)).snoc k2.is hoff).fr2 f1) (by simp; omega) (by omega) (by omega)
      refine ⟨hs', s', g1, g2, ?_, f2.trans g4, ?_⟩
      · rw [List.drop_eq_getElem_cons h, List.map_cons, List.append_cons]; exact g3
      · rw [g5]
        have : s1.get a = s.get a := k3.get a (by omega)
        rw [← this]
        grind [get_set, get_push]
    · have hz : ¬ (i : Int) < (l.length : Int) := by omega
      rw [decide_eq_false hz, if_f, List.drop_eq_nil_of_le (by omega)]
      exact ⟨hs, s, rfl, hg, by simpa using he, Fr2.refl _ _, rfl⟩
end

theorem law_puts {s : Store} {x0 x1 x2 : AV} {b l : List Int} {rows : List (List Int)} (h0 : IsV s x0 .u8 b) (h1 : IsV s x1 .u64 l) (h2 : IsVV s x2 rows) (hu : ∀ x ∈ l, 0 ≤ x ∧ x < 18446744073709551616) : ∃ s', rn 5001 4 [x0, x1, x2] s = some (.bool true, s') := by
  rw [show 5001 = 5000 + 1 from rfl, unisonlaw01_NumPuts.eq]
  unfold unisonlaw01_NumPuts.f unisonlaw01_NumPuts.p14 unisonlaw01_NumPuts.p13
  have haw : ∀ s, rn 5000 8 [] s = some (.bool true, s) := fun s => awake_rn 4999 s
  simp only [lenV h0, bnd, guard_tt, guard_ff, guard_tf, guard_ft, pick_t, pick_f, if_t, if_f, add_i, sub_i, lss_i, leq_i, gtr_i, geq_i, eql_i, neq_i, min_i, max_i, conv_i, len_sl, len_nil, not_b, cells_agg, new_s, fld_p, nil_p]
  by_cases hb : (b.length : Int) > 300
  · simp only [decide_eq_true hb, bnd, guard_tt, guard_ff, guard_tf, guard_ft, pick_t, pick_f, if_t, if_f, add_i, sub_i, lss_i, leq_i, gtr_i, geq_i, eql_i, neq_i, min_i, max_i, conv_i, len_sl, len_nil, not_b, cells_agg, new_s, fld_p, nil_p, haw]
    exact ⟨s, rfl⟩
  · simp only [decide_eq_false hb, bnd, guard_tt, guard_ff, guard_tf, guard_ft, pick_t, pick_f, if_t, if_f, add_i, sub_i, lss_i, leq_i, gtr_i, geq_i, eql_i, neq_i, min_i, max_i, conv_i, len_sl, len_nil, not_b, cells_agg, new_s, fld_p, nil_p, lenV h1]
    by_cases hl : (l.length : Int) > 60
    · simp only [decide_eq_true hl, bnd, guard_tt, guard_ff, guard_tf, guard_ft, pick_t, pick_f, if_t, if_f, add_i, sub_i, lss_i, leq_i, gtr_i, geq_i, eql_i, neq_i, min_i, max_i, conv_i, len_sl, len_nil, not_b, cells_agg, new_s, fld_p, nil_p, haw]
      exact ⟨s, rfl⟩
    · have hgr := great_run h2 4999 (by omega)
      simp only [Nat.reduceAdd] at hgr
      simp only [decide_eq_false hl, bnd, guard_tt, guard_ff, guard_tf, guard_ft, pick_t, pick_f, if_t, if_f, add_i, sub_i, lss_i, leq_i, gtr_i, geq_i, eql_i, neq_i, min_i, max_i, conv_i, len_sl, len_nil, not_b, cells_agg, new_s, fld_p, nil_p, hgr]
      by_cases hg : greatR rows = true
      · simp only [hg, bnd, guard_tt, guard_ff, guard_tf, guard_ft, pick_t, pick_f, if_t, if_f, add_i, sub_i, lss_i, leq_i, gtr_i, geq_i, eql_i, neq_i, min_i, max_i, conv_i, len_sl, len_nil, not_b, cells_agg, new_s, fld_p, nil_p, haw]
        exact ⟨s, rfl⟩
      · have hg' : greatR rows = false := by simpa using hg
        obtain ⟨hrn, hrl⟩ := great_not hg'
        simp only [hg', bnd, guard_tt, guard_ff, guard_tf, guard_ft, pick_t, pick_f, if_t, if_f, add_i, sub_i, lss_i, leq_i, gtr_i, geq_i, eql_i, neq_i, min_i, max_i, conv_i, len_sl, len_nil, not_b, cells_agg, new_s, fld_p, nil_p]
        unfold unisonlaw01_NumPuts.p12
        rw [lenV h0, add_i, w_i64 (by omega) (by omega)]
        have mk : ∀ f : AV → Store → Option (AV × Store), aMakeSlice [AV.int .u8 0] 1 1 (.int .i64 0) (.int .i64 ((b.length : Int) + 9)) s f = f (.sl s.next 0 0 1 0) (s.push (.cells [] false)) := by
          intro f
          simp only [aMakeSlice]
          rw [if_pos (by omega)]
          rfl
        rw [mk]
        have e0 := Ext.push s (.cells [] false)
        have o0 : OwnV (s.push (.cells [] false)) (.sl s.next 0 0 1 0) .u8 [] s.next := .inr ⟨s.next, rfl, Nat.le_refl _, Nat.lt_succ_self _, by rw [get_push, if_pos rfl]; rfl⟩
        obtain ⟨v1, s1, k1, o1, e1, _⟩ := appV (bytes := 1) o0 e0.next (h0.ext e0) (by simp; omega) (by omega)
        rw [k1, build_1]
        rw [List.nil_append] at o1
        have e01 := e0.lo' e1
        obtain ⟨v2, s2, k2, o2, e2, _⟩ := app1V (bytes := 1) o1 e01.next 7 (by omega) (by omega)
        rw [k2]
        have e02 := e01.lo' e2
        have h02 := h0.ext e02
        unfold unisonlaw01_NumPuts.p11
        rw [build_h h02, build_h h02]
        have ow2 := o2.is
        have hlt2 := ow2.lt
        have x0lt := h0.lt
        have hse := e02.next
        -- the two rows of rows
        obtain ⟨a, hadef⟩ : ∃ a, a = s2.next := ⟨_, rfl⟩
        have e3 : Ext s2 ((s2.push (.cells [x0] false)).push (.cells [x0] false)) := (Ext.push _ _).trans (Ext.push _ _)
        have ga : ((s2.push (.cells [x0] false)).push (.cells [x0] false)).get a = .cells [x0] false := by grind [get_push, next_push]
        have gb : ((s2.push (.cells [x0] false)).push (.cells [x0] false)).get (a + 1) = .cells [x0] false := by grind [get_push, next_push]
        have nx : ((s2.push (.cells [x0] false)).push (.cells [x0] false)).next = a + 2 := by rw [hadef]; rfl
        rw [show (s2.push (.cells [x0] false)).next = s2.next + 1 from rfl, ← hadef]
        generalize (s2.push (.cells [x0] false)).push (.cells [x0] false) = s3 at *
        have e03 := e02.trans e3
        have hx0 : offX a x0 := fun j b c d f hj => by have := x0lt _ _ _ _ _ hj; omega
        have each0 : EachX a s3 [x0] [b] := ⟨⟨rfl, fun i h r q1 q2 => by
          cases i with
          | zero =>
            obtain rfl := Option.some.inj q1
            obtain rfl := Option.some.inj q2
            exact h0.ext e03
          | succ i => simp at q1⟩, fun h hh => by rw [List.mem_singleton.1 hh]; exact hx0⟩
        unfold unisonlaw01_NumPuts.p10
        obtain ⟨hs4, s4, k4, g4, each4, f4, t4⟩ := puts_nums (x0 := x0) (x1 := x1) (x2 := x2) (x7 := v2) (a := a) (s0 := s) 4999 (by omega) (by omega) h1 (by omega) hu (by omega) (x9 := .sl (a + 1) 0 1 1 1) 5000 0 s3 [x0] [b] e03 (by omega) ga each0 (by simp; omega) (by omega) (by omega)
        rw [Int.natCast_zero] at k4
        rw [List.drop_zero] at each4
        rw [show (AV.sl a 0 1 1 1) = .sl a 0 [x0].length 1 [x0].length from rfl]
        simp only [Nat.reduceAdd] at k4
        rw [k4]
        unfold unisonlaw01_NumPuts.p6
        have e04 := f4.ext e03 (by omega)
        have gb4 : s4.get (a + 1) = .cells [x0] false := t4.trans gb
        have hn4 := f4.next
        have each0' := each0.fr2 f4
        obtain ⟨hs5, s5, k5, g5, each5, f5, t5⟩ := puts_texts (x0 := x0) (x1 := x1) (x2 := x2) (x7 := v2) (a := a) (s0 := s) 4998 (by omega) (by omega) h2 hrn hrl (by omega) (x8 := .sl a 0 hs4.length 1 hs4.length) 5000 0 s4 [x0] [b] e04 (by omega) gb4 each0' (by simp; omega) (by omega) (by omega)
        rw [Int.natCast_zero] at k5
        rw [List.drop_zero] at each5
        rw [show (AV.sl (a + 1) 0 1 1 1) = .sl (a + 1) 0 [x0].length 1 [x0].length from rfl]
        simp only [Nat.reduceAdd] at k5
        rw [k5]
        have e05 := f5.ext e04 (by omega)
        have hn5 := f5.next
        have nums5 : IsVV s5 (.sl a 0 hs4.length 1 hs4.length) (b :: l.map numB) := ⟨hs4, .inr ⟨a, false, by rw [Nat.mul_one], by omega, by rw [t5, g4, flat_hd]⟩, (each4.fr2 f5).1⟩
        have texts5 : IsVV s5 (.sl (a + 1) 0 hs5.length 1 hs5.length) (b :: rows.map rowB) := ⟨hs5, .inr ⟨a + 1, false, by rw [Nat.mul_one], by omega, by rw [g5, flat_hd]⟩, each5.1⟩
        have hoffw : offX a v2 := fun j b c d f hj => by have := hlt2 _ _ _ _ _ hj; omega
        have ow5 : IsV s5 v2 .u8 (b ++ [7]) := ((ow2.ext e3).fr2 f4 hoffw).fr2 f5 hoffw
        -- the walk's end
        obtain ⟨w, w1, _, _, w2, _⟩ := sliceV ow5 (a := 0) (b := b.length) (Nat.zero_le _) (by simp)
        have w1' : IsV s5 w .u8 b := by simpa using w1
        have w2' : ∀ {α : Type} (f : AV → Option α), aSliceSl 1 v2 none (some (.int .i64 (b.length : Int))) f = f w := fun f => w2 rfl .i64 f
        obtain ⟨v6, s6, k6, o6, e6⟩ := puts_run w1' (h1.ext e05) (by omega) (by omega) hu 4996 (by omega) (by omega)
        have e06 := e05.trans e6
        obtain ⟨v7, s7, k7, o7, e7⟩ := rows_run (w1'.ext e6) (h2.ext e06) (by omega) hrn hrl 4996 (by omega) (by omega)
        have e07 := e06.trans e7
        simp only [Nat.reduceAdd] at k6 k7
        unfold unisonlaw01_NumPuts.p2
        simp only [bnd, guard_tt, guard_ff, guard_tf, guard_ft, pick_t, pick_f, if_t, if_f, add_i, sub_i, lss_i, leq_i, gtr_i, geq_i, eql_i, neq_i, min_i, max_i, conv_i, len_sl, len_nil, not_b, cells_agg, new_s, fld_p, nil_p, lenV (h0.ext e05), lenV (h0.ext e06), w2', k6, k7]
        unfold unisonlaw01_NumPuts.p1
        have e57 := e6.trans e7
        have nl : (b :: l.map numB).length ≤ 100 := by simp; omega
        have tl : (b :: rows.map rowB).length ≤ 100 := by simp; omega
        obtain ⟨v8, s8, k8, o8, e8⟩ := join_run (nums5.ext e57) nl (fun r hr => by
          rcases List.mem_cons.1 hr with rfl | hr
          · omega
          · obtain ⟨x, _, rfl⟩ := List.mem_map.1 hr
            have := numB_len x; omega) 4999 (by omega)
        obtain ⟨v9, s9, k9, o9, e9⟩ := join_run ((texts5.ext e57).ext e8) tl (fun r hr => by
          rcases List.mem_cons.1 hr with rfl | hr
          · omega
          · obtain ⟨x, hx, rfl⟩ := List.mem_map.1 hr
            have := numB_len (x.length : Int); have := hrl x hx; unfold rowB; rw [List.length_append]; omega) 4999 (by omega)
        simp only [Nat.reduceAdd] at k8 k9
        have o6s := o6.is.ext e7
        have o7s := o7.is
        have j1 : (b :: l.map numB).flatten = b ++ numsB l := rfl
        have j2 : (b :: rows.map rowB).flatten = b ++ rowsB rows := rfl
        have e09 := (e07.trans e8).trans e9
        have ow9 := ((ow5.ext e57).ext e8).ext e9
        have w9 := ((w1'.ext e57).ext e8).ext e9
        obtain ⟨p, p1, p2⟩ := atV ow9 (i := (b.length : Int)) (by omega) (by simp only [List.length_append, List.length_cons, List.length_nil]; omega)
        have hseven : (b ++ [7]).getD (b.length : Int).toNat 0 = 7 := by
          rw [Int.toNat_natCast, List.getD_eq_getElem?_getD, List.getElem?_append_right (Nat.le_refl _), Nat.sub_self]
          rfl
        simp only [bnd, guard_tt, guard_ff, guard_tf, guard_ft, pick_t, pick_f, if_t, if_f, add_i, sub_i, lss_i, leq_i, gtr_i, geq_i, eql_i, neq_i, min_i, max_i, conv_i, len_sl, len_nil, not_b, cells_agg, new_s, fld_p, nil_p, strV o6s, k8, strV (o6s.ext e8), aSame_self, strV o8.is, j1, eq_str_same, strV (o7s.ext e8), k9, strV ((o7s.ext e8).ext e9), strV o9.is, j2, lenV (h0.ext e09), w2', strV w9, strV (h0.ext e09), p1, p2, hseven, beq_self_eq_true, haw]
        exact ⟨s9, rfl⟩

set_option linter.unusedVariables false in
theorem lawNumPuts (a0 : _) (w0 : (shSlice (shInt .u8)).wf a0) (a1 : _) (w1 : (shSlice (shInt .u64)).wf a1) (a2 : _) (w2 : (shSlice (shSlice (shInt .u8))).wf a2) : ∃ k s', rn k 4 ([] ++ ((shSlice (shInt .u8)).put a0 (Store.empty)).1 ++ ((shSlice (shInt .u64)).put a1 (((shSlice (shInt .u8)).put a0 Store.empty).2)).1 ++ ((shSlice (shSlice (shInt .u8))).put a2 (((shSlice (shInt .u64)).put a1 ((shSlice (shInt .u8)).put a0 Store.empty).2).2)).1) ((shSlice (shSlice (shInt .u8))).put a2 ((shSlice (shInt .u64)).put a1 ((shSlice (shInt .u8)).put a0 Store.empty).2).2).2 = some (.bool true, s') := by
  obtain ⟨v0, b, p0, h0, _, _, _⟩ := put_num .u8 a0 Store.empty w0
  obtain ⟨v1, l, p1, h1, u1, _, e1⟩ := put_num .u64 a1 ((shSlice (shInt .u8)).put a0 Store.empty).2 w1
  obtain ⟨v2, rows, p2, h2, _, e2⟩ := put_rows a2 ((shSlice (shInt .u64)).put a1 ((shSlice (shInt .u8)).put a0 Store.empty).2).2 w2
  obtain ⟨s', k⟩ := law_puts ((h0.ext e1).ext e2) (h1.ext e2) h2 (fun x hx => u64_of (u1 x hx))
  rw [p0, p1, p2]
  exact ⟨5001, s', k⟩
end Go.Proofs.Ytppaefjgkocakaa.Sim
