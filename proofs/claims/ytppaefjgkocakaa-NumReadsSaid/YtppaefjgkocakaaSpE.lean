/- Seat 01: the reader. No condition. -/
import Derived.Test.YtppaefjgkocakaaSpD
namespace Go.Proofs.Ytppaefjgkocakaa.Sim
set_option linter.unusedSimpArgs false
set_option linter.unusedVariables false

/-- A reader: its struct's row, what stands behind it, its error; 'lo': where its rows lie. -/
def IsRd (s : Store) (id : Nat) (b : List Int) (e : Int) (lo : Nat → Prop) : Prop := ∃ bv, s.get id = .cells [bv, .int .i64 e] false ∧ id < s.next ∧ lo id ∧ IsV s bv .u8 b ∧ ∀ i x c d f, bv = .sl i x c d f → i ≠ id ∧ lo i
theorem IsRd.mono {s : Store} {id : Nat} {b : List Int} {e : Int} {lo lo' : Nat → Prop} (h : IsRd s id b e lo) (k : ∀ i, lo i → lo' i) : IsRd s id b e lo' := by
  obtain ⟨bv, h1, h2, h3, h4, h5⟩ := h
  exact ⟨bv, h1, h2, k _ h3, h4, fun i x c d f q => ⟨(h5 i x c d f q).1, k _ (h5 i x c d f q).2⟩⟩
theorem IsRd.ext {s s' : Store} {id : Nat} {b : List Int} {e : Int} {lo : Nat → Prop} (h : IsRd s id b e lo) (x : Ext s s') : IsRd s' id b e lo := by
  obtain ⟨bv, h1, h2, h3, h4, h5⟩ := h
  exact ⟨bv, (x.get id h2).trans h1, Nat.lt_of_lt_of_le h2 x.next, h3, h4.ext x, h5⟩
/-- All rows but one are as they were. -/
structure Fr1 (id : Nat) (s s' : Store) : Prop where
  next : s.next ≤ s'.next
  get : ∀ l, l < s.next → l ≠ id → s'.get l = s.get l
theorem Fr1.refl (id : Nat) (s : Store) : Fr1 id s s := ⟨Nat.le_refl _, fun _ _ _ => rfl⟩
theorem Fr1.trans {id : Nat} {s s' s'' : Store} (h : Fr1 id s s') (k : Fr1 id s' s'') : Fr1 id s s'' := ⟨Nat.le_trans h.next k.next, fun l hl hn => (k.get l (Nat.lt_of_lt_of_le hl h.next) hn).trans (h.get l hl hn)⟩
theorem Ext.fr1 {s s' : Store} (h : Ext s s') (id : Nat) : Fr1 id s s' := ⟨h.next, fun l hl _ => h.get l hl⟩
theorem Fr1.ext {id : Nat} {s0 s s' : Store} (e : Ext s0 s) (h : Fr1 id s s') (hid : s0.next ≤ id) : Ext s0 s' := ⟨Nat.le_trans e.next h.next, fun l hl => (h.get l (Nat.lt_of_lt_of_le hl e.next) (by omega)).trans (e.get l hl)⟩
theorem Fr1.set (id : Nat) (s : Store) (o : AObj) : Fr1 id s (s.set id o) := ⟨Nat.le_refl _, fun l _ hn => by rw [get_set, if_neg hn]⟩
theorem IsV.fr1 {id : Nat} {s s' : Store} {v : AV} {k : IntKind} {xs : List Int} (h : IsV s v k xs) (e : Fr1 id s s') (hx : ∀ i b c d f, v = .sl i b c d f → i ≠ id) : IsV s' v k xs := by
  rcases h with h | ⟨l, off, ys, ro, h1, h2, h3, h4⟩
  · exact .inl h
  · exact .inr ⟨l, off, ys, ro, h1, Nat.lt_of_lt_of_le h2 e.next, by rw [e.get l h2 (hx _ _ _ _ _ h1)]; exact h3, h4⟩

section
variable {s : Store} {id : Nat} {lo : Nat → Prop} {b : List Int} {e : Int}

theorem ld_f0 {bv : AV} {x : Int} (hg : s.get id = .cells [bv, .int .i64 x] false) {α : Type} (f : AV → Option α) : aLoad1 (.ptr id (0 + 0) 2) s f = f bv := load_1 hg rfl rfl
theorem ld_f1 {bv : AV} {x : Int} (hg : s.get id = .cells [bv, .int .i64 x] false) {α : Type} (f : AV → Option α) : aLoad1 (.ptr id (0 + 1) 2) s f = f (.int .i64 x) := load_1 hg rfl rfl
theorem st_f1 {bv : AV} {x y : Int} (hg : s.get id = .cells [bv, .int .i64 x] false) {α : Type} (f : Store → Option α) : aStore 1 (.ptr id (0 + 1) 2) (.int .i64 y) s f = f (s.set id (.cells [bv, .int .i64 y] false)) := by
  simp [aStore, aCells, aOwn, hg, putAll]
theorem st_f0 {bv cv : AV} {x : Int} {k : IntKind} {xs : List Int} {t : Store} (hg : s.get id = .cells [bv, .int .i64 x] false) (hc : IsV t cv k xs) {α : Type} (f : Store → Option α) : aStore 1 (.ptr id (0 + 0) 2) cv s f = f (s.set id (.cells [cv, .int .i64 x] false)) := by
  simp [aStore, cellsV hc, aOwn, hg, putAll]
theorem eq_pn (l o ep : Nat) {α : Type} (f : Bool → Option α) : aEq .ptr (.ptr l o ep) .nilptr f = f false := rfl

theorem ready_run (h : IsRd s id b e lo) (k : Nat) : rn (k + 1) 25 [.ptr id 0 2] s = some (.bool (e == 0), s) := by
  obtain ⟨bv, h1, h2, h3, h4, h5⟩ := h
  rw [num_Reader_ready.eq]
  unfold num_Reader_ready.f num_Reader_ready.p0
  simp only [eq_pn, Bool.not_false, bnd, guard_tt, guard_ff, guard_tf, guard_ft, pick_t, pick_f, if_t, if_f, add_i, sub_i, lss_i, leq_i, gtr_i, geq_i, eql_i, neq_i, min_i, max_i, conv_i, len_sl, len_nil, not_b, cells_agg, new_s, fld_p, nil_p, ld_f1 h1]
theorem left_run (h : IsRd s id b e lo) (k : Nat) : rn (k + 1) 10 [.ptr id 0 2] s = some (.int .i64 b.length, s) := by
  obtain ⟨bv, h1, h2, h3, h4, h5⟩ := h
  rw [num_Reader_Left.eq]
  unfold num_Reader_Left.f num_Reader_Left.p0
  simp only [eq_pn, bnd, guard_tt, guard_ff, guard_tf, guard_ft, pick_t, pick_f, if_t, if_f, add_i, sub_i, lss_i, leq_i, gtr_i, geq_i, eql_i, neq_i, min_i, max_i, conv_i, len_sl, len_nil, not_b, cells_agg, new_s, fld_p, nil_p, ld_f0 h1, lenV h4]
theorem err_run (h : IsRd s id b e lo) (k : Nat) : rn (k + 1) 11 [.ptr id 0 2] s = some (.int .i64 e, s) := by
  obtain ⟨bv, h1, h2, h3, h4, h5⟩ := h
  rw [num_Reader_Err.eq]
  unfold num_Reader_Err.f num_Reader_Err.p0
  simp only [eq_pn, bnd, guard_tt, guard_ff, guard_tf, guard_ft, pick_t, pick_f, if_t, if_f, add_i, sub_i, lss_i, leq_i, gtr_i, geq_i, eql_i, neq_i, min_i, max_i, conv_i, len_sl, len_nil, not_b, cells_agg, new_s, fld_p, nil_p, ld_f1 h1]
def endR (b : List Int) (e : Int) : Int := if e = 0 ∧ 0 < b.length then 4 else e
theorem end_run (h : IsRd s id b e lo) (k : Nat) : rn (k + 2) 13 [.ptr id 0 2] s = some (.int .i64 (endR b e), s) := by
  rw [num_Reader_End.eq]
  unfold num_Reader_End.f num_Reader_End.p0 endR
  simp only [err_run h, bnd, guard_tt, guard_ff, guard_tf, guard_ft, pick_t, pick_f, if_t, if_f, add_i, sub_i, lss_i, leq_i, gtr_i, geq_i, eql_i, neq_i, min_i, max_i, conv_i, len_sl, len_nil, not_b, cells_agg, new_s, fld_p, nil_p]
  by_cases he : e = 0
  · subst he
    simp only [beq_self_eq_true, bnd, guard_tt, guard_ff, guard_tf, guard_ft, pick_t, pick_f, if_t, if_f, add_i, sub_i, lss_i, leq_i, gtr_i, geq_i, eql_i, neq_i, min_i, max_i, conv_i, len_sl, len_nil, not_b, cells_agg, new_s, fld_p, nil_p, left_run h]
    by_cases hb : 0 < b.length
    · rw [decide_eq_true (show (b.length : Int) > 0 by omega), if_t]; simp [hb]
    · rw [decide_eq_false (show ¬ (b.length : Int) > 0 by omega), if_f, err_run h, bnd]; simp [hb]
  · have he' : (e == 0) = false := by simpa using he
    simp only [he', bnd, guard_tt, guard_ff, guard_tf, guard_ft, pick_t, pick_f, if_t, if_f, add_i, sub_i, lss_i, leq_i, gtr_i, geq_i, eql_i, neq_i, min_i, max_i, conv_i, len_sl, len_nil, not_b, cells_agg, new_s, fld_p, nil_p, err_run h]
    rw [if_neg (fun q => he q.1)]

theorem new_run {bv : AV} (hv : IsV s bv .u8 b) (hb : b.length ≤ 1000000) (k : Nat) : ∃ id s', rn (k + 2) 9 [bv] s = some (.ptr id 0 2, s') ∧ IsRd s' id b 0 (fun i => s.next ≤ i ∧ i < s'.next) ∧ Ext s s' := by
  rw [num_New.eq]
  unfold num_New.f num_New.p0
  obtain ⟨cv, s1, k1, o1, e1⟩ := clone_u8 hv hb k
  rw [k1, bnd]
  have hb2 : ∀ f : List AV → Option (AV × Store), aBuild [(0, 1, cv)] [AV.nilsl, AV.int .i64 0] f = f [cv, .int .i64 0] := by
    intro f
    simp only [aBuild, cellsV o1.is]
    simp [putAll]
  simp only
  rw [hb2, cells_agg, new_s]
  have e2 := Ext.push s1 (.cells [cv, .int .i64 0] false)
  refine ⟨s1.next, _, rfl, ⟨cv, by rw [get_push, if_pos rfl], Nat.lt_succ_self _, ⟨e1.next, Nat.lt_succ_self _⟩, o1.is.ext e2, fun i x c d f hj => ?_⟩, e1.trans e2⟩
  rcases o1 with ⟨q, _⟩ | ⟨j, q, i1, i2, _⟩
  · rw [q] at hj; cases hj
  · rw [q] at hj; cases hj; exact ⟨by omega, i1, by rw [next_push]; omega⟩

def rdNum (b : List Int) (e most : Int) : Int × List Int × Int := if e ≠ 0 then (0, b, e) else if (numR b most).2.2 ≠ 0 then (0, b, (numR b most).2.2) else numR b most
theorem num_run (h : IsRd s id b e lo) (hu : ∀ x ∈ b, 0 ≤ x ∧ x < 256) (hb : b.length ≤ 1000000) (most : Int) (k : Nat) (hk : 20 ≤ k) : ∃ s', rn (k + 2) 12 [.ptr id 0 2, .int .u64 most] s = some (.int .u64 (rdNum b e most).1, s') ∧ IsRd s' id (rdNum b e most).2.1 (rdNum b e most).2.2 lo ∧ Fr1 id s s' := by
  rw [num_Reader_Num.eq]
  unfold num_Reader_Num.f num_Reader_Num.p0 rdNum
  rw [ready_run h, bnd, not_b]
  by_cases he : e = 0
  · subst he
    have h' := h
    obtain ⟨bv, h1, h2, h3, h4, h5⟩ := h
    obtain ⟨lv, n1, n2, n3⟩ := number_run (most := most) h4 hu hb k hk
    have ex : ∀ (x y z : AV) {α : Type} (f : AV → Option α), aExtract 0 (.tuple [x, y, z]) f = f x ∧ aExtract 1 (.tuple [x, y, z]) f = f y ∧ aExtract 2 (.tuple [x, y, z]) f = f z := fun x y z α f => ⟨rfl, rfl, rfl⟩
    simp only [beq_self_eq_true, Bool.not_true, bnd, guard_tt, guard_ff, guard_tf, guard_ft, pick_t, pick_f, if_t, if_f, add_i, sub_i, lss_i, leq_i, gtr_i, geq_i, eql_i, neq_i, min_i, max_i, conv_i, len_sl, len_nil, not_b, cells_agg, new_s, fld_p, nil_p, ld_f0 h1, n1, (ex _ _ _ _).1, (ex _ _ _ _).2.1, (ex _ _ _ _).2.2, ne_eq, not_true, if_false]
    by_cases hx : (numR b most).2.2 = 0
    · have hx' : ((numR b most).2.2 != 0) = false := by simp [hx]
      have hoff : ∀ i x c d f, lv = .sl i x c d f → i ≠ id ∧ lo i := fun i x c d f q => by
        obtain ⟨x', c', d', f', q'⟩ := n3 i x c d f q
        exact h5 i x' c' d' f' q'
      rw [hx', if_f, st_f0 h1 n2, if_neg (fun q => q hx)]
      refine ⟨_, rfl, ⟨lv, by rw [get_set, if_pos rfl, hx], h2, h3, n2.fr1 (Fr1.set id s _) fun i x c d f q => (hoff i x c d f q).1, hoff⟩, Fr1.set id s _⟩
    · have hx' : ((numR b most).2.2 != 0) = true := by simpa using hx
      rw [hx', if_t, st_f1 h1, if_pos hx]
      exact ⟨_, rfl, ⟨bv, by rw [get_set, if_pos rfl], h2, h3, h4.fr1 (Fr1.set id s _) fun i x c d f q => (h5 i x c d f q).1, h5⟩, Fr1.set id s _⟩
  · have he' : (e == 0) = false := by simpa using he
    rw [he', if_pos he]
    exact ⟨s, rfl, h, Fr1.refl _ _⟩

def rdRow (b : List Int) (e most : Int) : List Int × List Int × Int := if e ≠ 0 then ([], b, e) else if (numR b 18446744073709551615).2.2 ≠ 0 then ([], b, (numR b 18446744073709551615).2.2)
  else if (numR b 18446744073709551615).1 > max most 0 then ([], b, 4) else if (numR b 18446744073709551615).1 > (numR b 18446744073709551615).2.1.length then ([], b, 2)
  else ((numR b 18446744073709551615).2.1.take (numR b 18446744073709551615).1.toNat, (numR b 18446744073709551615).2.1.drop (numR b 18446744073709551615).1.toNat, 0)
theorem numR_nn {b : List Int} (hu : ∀ x ∈ b, 0 ≤ x ∧ x < 256) (most : Int) : 0 ≤ (numR b most).1 := by
  unfold numR
  split
  · exact Int.le_refl _
  · rename_i k r
    split
    · exact Int.le_refl _
    · split
      · exact Int.le_refl _
      · split
        · exact Int.le_refl _
        · split
          · exact Int.le_refl _
          · exact (valI_bnd _ fun x hx => hu x (List.mem_cons_of_mem _ (List.mem_of_mem_take hx))).1
theorem numR_len (b : List Int) (most : Int) : (numR b most).2.1.length ≤ b.length := by
  unfold numR
  split
  · simp
  · rename_i k r
    split
    · simp
    · split
      · simp
      · split
        · simp
        · split
          · simp
          · simp; omega
theorem row_run (h : IsRd s id b e lo) (hu : ∀ x ∈ b, 0 ≤ x ∧ x < 256) (hb : b.length ≤ 1000000) (most : Int) (hm : most < 9223372036854775808) (k : Nat) (hk : 20 ≤ k) : ∃ v s', rn (k + 2) 21 [.ptr id 0 2, .int .i64 most] s = some (v, s') ∧ IsV s' v .u8 (rdRow b e most).1 ∧ IsRd s' id (rdRow b e most).2.1 (rdRow b e most).2.2 lo ∧ Fr1 id s s' := by
  rw [num_Reader_Row.eq]
  unfold num_Reader_Row.f num_Reader_Row.p4 num_Reader_Row.p3 rdRow
  rw [ready_run h, bnd, not_b]
  by_cases he : e = 0
  · subst he
    have h' := h
    obtain ⟨bv, h1, h2, h3, h4, h5⟩ := h
    obtain ⟨lv, n1, n2, n3⟩ := number_run (most := 18446744073709551615) h4 hu hb k hk
    have hnn := numR_nn hu 18446744073709551615
    have hln := numR_len b 18446744073709551615
    have ex : ∀ (x y z : AV) {α : Type} (f : AV → Option α), aExtract 0 (.tuple [x, y, z]) f = f x ∧ aExtract 1 (.tuple [x, y, z]) f = f y ∧ aExtract 2 (.tuple [x, y, z]) f = f z := fun x y z α f => ⟨rfl, rfl, rfl⟩
    unfold num_Reader_Row.p2
    simp only [beq_self_eq_true, Bool.not_true, bnd, guard_tt, guard_ff, guard_tf, guard_ft, pick_t, pick_f, if_t, if_f, add_i, sub_i, lss_i, leq_i, gtr_i, geq_i, eql_i, neq_i, min_i, max_i, conv_i, len_sl, len_nil, not_b, cells_agg, new_s, fld_p, nil_p, ld_f0 h1, n1, (ex _ _ _ _).1, (ex _ _ _ _).2.1, (ex _ _ _ _).2.2, ne_eq, not_true, if_false]
    generalize numR b 18446744073709551615 = R at *
    obtain ⟨n, left, er⟩ := R
    simp only at *
    have bad : ∀ y : Int, IsRd (s.set id (.cells [bv, .int .i64 y] false)) id b y lo := fun y => ⟨bv, by rw [get_set, if_pos rfl], h2, h3, h4.fr1 (Fr1.set id s _) fun i x c d f q => (h5 i x c d f q).1, h5⟩
    have hoff : ∀ i x c d f, lv = .sl i x c d f → i ≠ id ∧ lo i := fun i x c d f q => by
      obtain ⟨x', c', d', f', q'⟩ := n3 i x c d f q
      exact h5 i x' c' d' f' q'
    unfold num_Reader_Row.p1 num_Reader_Row.p0
    rw [neq_i]
    by_cases hx : er = 0
    · subst hx
      simp only [bne_self_eq_false, bnd, guard_tt, guard_ff, guard_tf, guard_ft, pick_t, pick_f, if_t, if_f, add_i, sub_i, lss_i, leq_i, gtr_i, geq_i, eql_i, neq_i, min_i, max_i, conv_i, len_sl, len_nil, not_b, cells_agg, new_s, fld_p, nil_p, not_true, if_false]
      by_cases hc : n > max most 0
      · have hw : IntKind.u64.wrap (max most 0) = max most 0 := w_u64 (by omega) (by omega)
        simp only [hw, decide_eq_true hc, bnd, guard_tt, guard_ff, guard_tf, guard_ft, pick_t, pick_f, if_t, if_f, add_i, sub_i, lss_i, leq_i, gtr_i, geq_i, eql_i, neq_i, min_i, max_i, conv_i, len_sl, len_nil, not_b, cells_agg, new_s, fld_p, nil_p, st_f1 h1, if_pos hc]
        exact ⟨_, _, rfl, .inl ⟨rfl, rfl⟩, bad 4, Fr1.set id s _⟩
      · have hw : IntKind.u64.wrap (max most 0) = max most 0 := w_u64 (by omega) (by omega)
        simp only [hw, decide_eq_false hc, bnd, guard_tt, guard_ff, guard_tf, guard_ft, pick_t, pick_f, if_t, if_f, add_i, sub_i, lss_i, leq_i, gtr_i, geq_i, eql_i, neq_i, min_i, max_i, conv_i, len_sl, len_nil, not_b, cells_agg, new_s, fld_p, nil_p, lenV n2, if_neg hc]
        by_cases hd : n > (left.length : Int)
        · by_cases hbig : (left.length : Int) < 18446744073709551616
          · simp only [w_u64 (show (0 : Int) ≤ left.length by omega) hbig, decide_eq_true hd, bnd, guard_tt, guard_ff, guard_tf, guard_ft, pick_t, pick_f, if_t, if_f, add_i, sub_i, lss_i, leq_i, gtr_i, geq_i, eql_i, neq_i, min_i, max_i, conv_i, len_sl, len_nil, not_b, cells_agg, new_s, fld_p, nil_p, st_f1 h1, if_pos hd]
            exact ⟨_, _, rfl, .inl ⟨rfl, rfl⟩, bad 2, Fr1.set id s _⟩
          · omega
        · have hbig : (left.length : Int) < 18446744073709551616 := by omega
          obtain ⟨nn, hnn2⟩ : ∃ nn : Nat, n = nn := ⟨n.toNat, by omega⟩
          subst hnn2
          obtain ⟨dv, d1, _, d3, _, d2⟩ := sliceV n2 (a := nn) (b := left.length) (by omega) (Nat.le_refl _)
          have d2' : ∀ {α : Type} (f : AV → Option α), aSliceSl 1 lv (some (.int .u64 (nn : Int))) none f = f dv := fun f => d2 rfl .u64 f
          have d1' : IsV s dv .u8 (left.drop nn) := by
            have e : ((left.drop nn).take (left.length - nn)) = left.drop nn := List.take_of_length_le (by simp)
            rw [e] at d1; exact d1
          obtain ⟨tv, t1, _, t3, t2, _⟩ := sliceV n2 (a := 0) (b := nn) (Nat.zero_le _) (by omega)
          have t2' : ∀ {α : Type} (f : AV → Option α), aSliceSl 1 lv none (some (.int .u64 (nn : Int))) f = f tv := fun f => t2 rfl .u64 f
          have t1' : IsV s tv .u8 (left.take nn) := by simpa using t1
          have toff : ∀ i x c d f, tv = .sl i x c d f → i ≠ id := fun i x c d f q => by
            obtain ⟨x', c', d', f', q'⟩ := t3 i x c d f q
            exact (hoff i x' c' d' f' q').1
          have doff : ∀ i x c d f, dv = .sl i x c d f → i ≠ id ∧ lo i := fun i x c d f q => by
            obtain ⟨x', c', d', f', q'⟩ := d3 i x c d f q
            exact hoff i x' c' d' f' q'
          have f1 := Fr1.set id s (.cells [dv, .int .i64 0] false)
          obtain ⟨cv, s2, c1, c2, c3⟩ := clone_u8 (t1'.fr1 f1 toff) (by simp; omega) k
          simp only [w_u64 (show (0 : Int) ≤ left.length by omega) hbig, decide_eq_false hd, bnd, guard_tt, guard_ff, guard_tf, guard_ft, pick_t, pick_f, if_t, if_f, add_i, sub_i, lss_i, leq_i, gtr_i, geq_i, eql_i, neq_i, min_i, max_i, conv_i, len_sl, len_nil, not_b, cells_agg, new_s, fld_p, nil_p, d2', st_f0 h1 d1', t2', c1, if_neg hd, Int.toNat_natCast]
          have r1 : IsRd (s.set id (.cells [dv, .int .i64 0] false)) id (left.drop nn) 0 lo := ⟨dv, by rw [get_set, if_pos rfl], h2, h3, d1'.fr1 f1 fun i x c d f q => (doff i x c d f q).1, doff⟩
          exact ⟨cv, s2, rfl, c2.is, r1.ext c3, f1.trans (c3.fr1 id)⟩
    · have hx' : (er != 0) = true := by simpa using hx
      simp only [hx', bnd, guard_tt, guard_ff, guard_tf, guard_ft, pick_t, pick_f, if_t, if_f, add_i, sub_i, lss_i, leq_i, gtr_i, geq_i, eql_i, neq_i, min_i, max_i, conv_i, len_sl, len_nil, not_b, cells_agg, new_s, fld_p, nil_p, st_f1 h1, hx, not_false_eq_true, if_true]
      exact ⟨_, _, rfl, .inl ⟨rfl, rfl⟩, bad er, Fr1.set id s _⟩
  · have he' : (e == 0) = false := by simpa using he
    rw [he', if_pos he]
    exact ⟨.nilsl, s, rfl, .inl ⟨rfl, rfl⟩, h, Fr1.refl _ _⟩
end
end Go.Proofs.Ytppaefjgkocakaa.Sim
