/- Seat 05: the base behind a batch; what is held; comparisons. No condition. -/
import Derived.Test.YtmaidlndikcgkaaB05L
namespace Go.Proofs.Ytmaidlndikcgkaa.Sim
set_option linter.unusedSimpArgs false
set_option linter.unusedVariables false

/-- Numbers in a row of one's own, that lies behind 'lo', if there is one. -/
def OwnN (s : Store) (v : AV) (xs : List Int) (lo : Nat) : Prop := (v = .nilsl ∧ xs = []) ∨ ∃ id, v = .sl id 0 xs.length 1 xs.length ∧ lo ≤ id ∧ id < s.next ∧ s.get id = .cells (xs.map (.int .u64)) false
theorem OwnN.is {s : Store} {v : AV} {xs : List Int} {lo : Nat} (h : OwnN s v xs lo) : IsSl s v .u64 xs := by
  rcases h with h | ⟨id, h1, _, h2, h3⟩
  · exact .inl h
  · exact .inr ⟨id, false, h1, h2, h3⟩
theorem OwnN.ext {s s' : Store} {v : AV} {xs : List Int} {lo : Nat} (h : OwnN s v xs lo) (e : Ext s s') : OwnN s' v xs lo := by
  rcases h with h | ⟨id, h1, h4, h2, h3⟩
  · exact .inl h
  · exact .inr ⟨id, h1, h4, Nat.lt_of_lt_of_le h2 e.next, by rw [e.get id h2]; exact h3⟩
theorem ExtLo.isSl {lo : Nat} {s s' : Store} (e : ExtLo lo s s') {v : AV} {k : IntKind} {xs : List Int} (h : IsSl s v k xs) (hlo : ∀ a b c d f, v = .sl a b c d f → a < lo) : IsSl s' v k xs := by
  rcases h with h | ⟨l, ro, h1, h2, h3⟩
  · exact .inl h
  · exact .inr ⟨l, ro, h1, Nat.lt_of_lt_of_le h2 e.next, by rw [e.get l (hlo _ _ _ _ _ h1)]; exact h3⟩
theorem IsSl.lt {s : Store} {v : AV} {k : IntKind} {xs : List Int} (h : IsSl s v k xs) : ∀ a b c d f, v = .sl a b c d f → a < s.next := by
  rcases h with ⟨h, _⟩ | ⟨id, ro, h1, h2, h3⟩
  · intro a b c d f e; rw [h] at e; cases e
  · intro a b c d f e; rw [h1] at e; cases e; exact h2

/-- append([]uint64{}, x..). -/
theorem own_copy {s : Store} {v : AV} {xs : List Int} (h : IsSl s v .u64 xs) (hb : xs.length ≤ 1000000) : ∃ s', (∀ f : AV → Store → Option (AV × Store), aAppend 1 8 (.sl s.next 0 0 1 0) v (s.push (.cells [] false)) f = f (.sl s.next 0 xs.length 1 xs.length) s') ∧ s'.get s.next = .cells (xs.map (.int .u64)) false ∧ s.next < s'.next ∧ Ext s s' := by
  have := fun f => app_nums (α := AV × Store) (s := s.push (.cells [] false)) (id := s.next) (bytes := 8) (k := .u64) (xs := []) (by grind [get_push]) (h.ext (Ext.push s _)) (by simp; omega) (by omega) f
  simp only [List.length_nil, List.nil_append] at this
  exact ⟨_, this, by rw [get_set, if_pos rfl], by simp only [next_set, next_push]; omega, ⟨by simp only [next_set, next_push]; omega, fun l hl => by grind [get_set, get_push]⟩⟩

theorem clone_u64 {s : Store} {v : AV} {xs : List Int} (h : IsSl s v .u64 xs) (hb : xs.length ≤ 1000000) (k : Nat) : ∃ v' s', rn (k + 1) 33 [v] s = some (v', s') ∧ OwnN s' v' xs s.next ∧ Ext s s' := by
  rw [slices_Clone_uint64_uint64.eq]
  unfold slices_Clone_uint64_uint64.f slices_Clone_uint64_uint64.p0
  obtain ⟨s1, k1, k2, k3, k4⟩ := own_copy h hb
  rcases h with ⟨rfl, rfl⟩ | ⟨id, ro, rfl, h2, h3⟩
  · exact ⟨.nilsl, s, rfl, .inl ⟨rfl, rfl⟩, Ext.refl _⟩
  · simp only [aEq, bnd, guard_tt, guard_ff, guard_tf, guard_ft, pick_t, pick_f, if_t, if_f, add_i, sub_i, lss_i, leq_i, gtr_i, geq_i, eql_i, neq_i, min_i, max_i, conv_i, len_sl, len_nil, not_b, cells_agg, new_s, fld_p, nil_p]
    rw [show (fun c2 => aAppend 1 8 (.sl s.next 0 0 1 0) (.sl id 0 xs.length 1 xs.length) (s.push (.cells c2 false)) fun v3 s4 => some (v3, s4)) = _ from rfl]
    have e : ∀ f : List AV → Option (AV × Store), aBuild [] [] f = f [] := fun _ => rfl
    rw [e, k1]
    exact ⟨_, s1, rfl, .inr ⟨s.next, rfl, Nat.le_refl _, k3, k2⟩, k4⟩

/-- A run's last number. -/
def lastR (r : Rn) : Int := r.2.1 + (r.2.2 - 1)
theorem lastR_bnd {r : Rn} (hw : WfR r) (h : runOk r = true) : 1 ≤ lastR r ∧ lastR r ≤ 4611686018427387904 ∧ r.2.1 - 1 + r.2.2 = lastR r := by
  have := of_decide_eq_true h; unfold lastR; have := hw; omega
theorem ref_last {s : Store} {r : Rn} (hw : WfR r) (h : runOk r = true) (k : Nat) : rn (k + 1) 50 [.agg (rcells r)] s = some (.int .u64 (lastR r), s.push (.cells (rcells r) false)) := by
  rw [unisonref03_Last.eq]
  unfold unisonref03_Last.f unisonref03_Last.p0
  have g : (s.push (.cells (rcells r) false)).get s.next = .cells (rcells r) false := by rw [get_push, if_pos rfl]
  have hr := of_decide_eq_true h
  simp only [bnd, guard_tt, guard_ff, guard_tf, guard_ft, pick_t, pick_f, if_t, if_f, add_i, sub_i, lss_i, leq_i, gtr_i, geq_i, eql_i, neq_i, min_i, max_i, conv_i, len_sl, len_nil, not_b, cells_agg, new_s, fld_p, nil_p, r_len, ld_1 g, ld_2 g, w_u64 (show 0 ≤ r.2.2 - 1 by omega) (show r.2.2 - 1 < 18446744073709551616 by omega), w_u64 (show 0 ≤ r.2.1 + (r.2.2 - 1) by omega) (show r.2.1 + (r.2.2 - 1) < 18446744073709551616 by omega)]
  rfl
theorem bat_last {s : Store} {r : Rn} (hw : WfR r) (h : runOk r = true) (k : Nat) : rn (k + 1) 69 [.agg (rcells r)] s = some (.int .u64 (lastR r), s.push (.cells (rcells r) false)) := by
  rw [batch_last.eq]
  unfold batch_last.f batch_last.p0
  have g : (s.push (.cells (rcells r) false)).get s.next = .cells (rcells r) false := by rw [get_push, if_pos rfl]
  have hr := of_decide_eq_true h
  have e : r.2.1 + r.2.2 - 1 = lastR r := by unfold lastR; omega
  have ew : IntKind.u64.wrap (lastR r) = lastR r := by rw [← e, w_u64 (by omega) (by omega)]
  simp only [bnd, guard_tt, guard_ff, guard_tf, guard_ft, pick_t, pick_f, if_t, if_f, add_i, sub_i, lss_i, leq_i, gtr_i, geq_i, eql_i, neq_i, min_i, max_i, conv_i, len_sl, len_nil, not_b, cells_agg, new_s, fld_p, nil_p, r_len, ld_1 g, ld_2 g, w_u64 (show 0 ≤ r.2.1 + r.2.2 by omega) (show r.2.1 + r.2.2 < 18446744073709551616 by omega), e, ew]

/-- The base behind runs. -/
def setR (b : List Int) (r : Rn) : List Int := b.set r.1.toNat (lastR r)
theorem mayFrom_set {b : List Int} (j : Nat) (v : Int) : ∀ (l : List Rn) (last : Int), (j : Int) ≤ last → mayFrom b last l = true → mayFrom (b.set j v) last l = true
  | [], _, _, _ => rfl
  | r :: l, last, hj, h => by
    unfold mayFrom at h ⊢
    simp only [Bool.and_eq_true, Bool.not_eq_true', decide_eq_true_eq, decide_eq_false_iff_not, List.length_set] at h ⊢
    obtain ⟨h1, h2, h3, h4, h5⟩ := h
    refine ⟨h1, h2, h3, ?_, mayFrom_set j v l r.1 (by omega) h5⟩
    rw [← h4]
    simp only [List.getD_eq_getElem?_getD, List.getElem?_set]
    rw [if_neg (by omega)]
theorem mayFrom_cons {b : List Int} {last : Int} {r : Rn} {l : List Rn} (hl : -1 ≤ last) (h : mayFrom b last (r :: l) = true) : runOk r = true ∧ last < r.1 ∧ r.1 < b.length ∧ b.getD r.1.toNat 0 = r.2.1 - 1 ∧ mayFrom (setR b r) r.1 l = true := by
  unfold mayFrom at h
  simp only [Bool.and_eq_true, Bool.not_eq_true', decide_eq_true_eq, decide_eq_false_iff_not] at h
  obtain ⟨h1, h2, h3, h4, h5⟩ := h
  exact ⟨h1, by omega, by omega, h4, mayFrom_set _ _ l r.1 (by omega) h5⟩
def afterR (base : List Int) (l : List Rn) : List Int := if mayR base 4096 l = true then l.foldl setR base else base
theorem setR_len (b : List Int) (r : Rn) : (setR b r).length = b.length := by simp [setR]
theorem foldR_len : ∀ (l : List Rn) (b : List Int), (l.foldl setR b).length = b.length
  | [], _ => rfl
  | r :: l, b => by rw [List.foldl_cons, foldR_len l, setR_len]
theorem foldR_U : ∀ {l : List Rn} {b : List Int} {last : Int}, -1 ≤ last → (∀ r ∈ l, WfR r) → mayFrom b last l = true → U b → U (l.foldl setR b)
  | [], _, _, _, _, _, hu => hu
  | r :: l, b, last, hl, hw, h, hu => by
    obtain ⟨h1, h2, h3, h4, h5⟩ := mayFrom_cons hl h
    have hb := lastR_bnd (hw r List.mem_cons_self) h1
    refine foldR_U (l := l) (b := setR b r) (last := r.1) (by omega) (fun x hx => hw x (List.mem_cons_of_mem _ hx)) h5 fun x hx => ?_
    rcases List.mem_or_eq_of_mem_set hx with hx | hx
    · exact hu x hx
    · subst hx; omega
theorem afterR_len (b : List Int) (l : List Rn) : (afterR b l).length = b.length := by unfold afterR; split <;> simp [foldR_len]
theorem mayR_from {b : List Int} {most : Int} {l : List Rn} (h : mayR b most l = true) : mayFrom b (-1) l = true := by
  unfold mayR at h
  split at h
  · cases h
  · exact h

section
variable {v : AV} {l : List Rn} {lo ido : Nat}

end

/-- A run that isn't held. -/
def badR (held : List Int) (r : Rn) : Bool := !runOk r || decide (atI held r.1 < lastR r)

theorem held_1 {s : Store} {x0 : AV} {cap : Nat} {held : List Int} {r : Rn} (hr : WfR r) (h0 : IsSl s x0 .u64 held) (hc : s.get cap = .cells [x0] false) (hcl : cap < s.next) (hhl : held.length ≤ 1000000) (k : Nat) : ∃ s', rn (k + 2) 66 ([] ++ [.agg (rcells r)] ++ [.ptr cap 0 1]) s = some (.bool (badR held r), s') ∧ Ext s s' := by
  simp only [List.nil_append, List.cons_append]
  rw [batch_Held_1.eq]
  unfold batch_Held_1.f batch_Held_1.p2 batch_Held_1.p1 batch_Held_1.p0
  have g : (s.push (.cells (rcells r) false)).get s.next = .cells (rcells r) false := by rw [get_push, if_pos rfl]
  have e1 := Ext.push s (.cells (rcells r) false)
  have n1 : s.next < (s.push (.cells (rcells r) false)).next := Nat.lt_succ_self _
  simp only [cells_agg, new_s, r_len]
  generalize s.push (.cells (rcells r) false) = s1 at *
  have e2 := Ext.push s1 (.cells (rcells r) false)
  simp only [bnd, guard_tt, guard_ff, guard_tf, guard_ft, pick_t, pick_f, if_t, if_f, add_i, sub_i, lss_i, leq_i, gtr_i, geq_i, eql_i, neq_i, min_i, max_i, conv_i, len_sl, len_nil, not_b, cells_agg, new_s, fld_p, nil_p, ld_3 g, ident_run hr]
  have g2 := (e2.get _ n1).trans g
  have n2 := Nat.lt_of_lt_of_le n1 e2.next
  generalize s1.push (.cells (rcells r) false) = s2 at *
  have e12 := e1.trans e2
  by_cases hk : runOk r = true
  · have hld : ∀ {α : Type} (f : AV → Option α), aLoad1 (.ptr cap 0 1) s2 f = f x0 := fun f => load_1 ((e12.get cap hcl).trans hc) rfl rfl
    have hrr := hr.1
    simp only [hk, Bool.not_true, bnd, guard_tt, guard_ff, guard_tf, guard_ft, pick_t, pick_f, if_t, if_f, add_i, sub_i, lss_i, leq_i, gtr_i, geq_i, eql_i, neq_i, min_i, max_i, conv_i, len_sl, len_nil, not_b, cells_agg, new_s, fld_p, nil_p, hld, ld_0 g2, ld_3 g2, w_i64 (show -9223372036854775808 ≤ r.1 by omega) (show r.1 < 9223372036854775808 by omega), vec_at (h0.ext e12) (show (held.length : Int) < 9223372036854775808 by omega), aSame_self, bat_last hr hk]
    have eb : badR held r = decide (atI held r.1 < lastR r) := by unfold badR; rw [hk]; rfl
    rw [eb]
    exact ⟨_, rfl, e12.trans (Ext.push _ _)⟩
  · have hk' : runOk r = false := by simpa using hk
    have eb : badR held r = true := by unfold badR; rw [hk']; rfl
    have hsk : ∀ (v : AV) (x : Option (AV × Store)), aSame v v x = x := fun v x => aSame_self v x
    simp only [hk', Bool.not_false, bnd, guard_tt, guard_ff, guard_tf, guard_ft, pick_t, pick_f, if_t, if_f, add_i, sub_i, lss_i, leq_i, gtr_i, geq_i, eql_i, neq_i, min_i, max_i, conv_i, len_sl, len_nil, not_b, cells_agg, new_s, fld_p, nil_p, hsk, eb]
    exact ⟨s2, rfl, e12⟩

theorem cells_sl {s : Store} {v : AV} {k : IntKind} {xs : List Int} (h : IsSl s v k xs) {α : Type} (f : List AV → Option α) : aCells v f = f [v] := by
  rcases h with ⟨rfl, _⟩ | ⟨_, _, rfl, _⟩ <;> rfl

theorem bat_held {s : Store} {x0 v : AV} {held : List Int} {l : List Rn} (h0 : IsSl s x0 .u64 held) (hl : IsRuns s v l) (hw : ∀ r ∈ l, WfR r) (hhl : held.length ≤ 1000000) (k : Nat) (hb : l.length < k) (hk : k ≤ 1000000000) :
    ∃ s', rn (k + 5) 53 [x0, v] s = some (.bool (!(l.any (badR held))), s') ∧ Ext s s' := by
  rw [batch_Held.eq]
  unfold batch_Held.f batch_Held.p0
  rw [cells_sl h0, new_s]
  have e1 := Ext.push s (.cells [x0] false)
  have g1 : (s.push (.cells [x0] false)).get s.next = .cells [x0] false := by rw [get_push, if_pos rfl]
  have n1 : s.next < (s.push (.cells [x0] false)).next := Nat.lt_succ_self _
  generalize s.push (.cells [x0] false) = s1 at *
  generalize s.next = cp at *
  obtain ⟨s2, k2, e2⟩ := contains_func (k + 2) 66 [.ptr cp 0 1] (badR held) (fun s => IsSl s x0 .u64 held ∧ s.get cp = .cells [x0] false ∧ cp < s.next) (fun s s' h e => ⟨h.1.ext e, (e.get cp h.2.2).trans h.2.1, Nat.lt_of_lt_of_le h.2.2 e.next⟩) (fun s r hr h => held_1 hr h.1 h.2.1 h.2.2 hhl k) (s := s1) (v := v) (l := l) ⟨h0.ext e1, g1, n1⟩ (hl.ext e1) hw (by omega) (by omega)
  have k2' : rn (k + 4) 65 [v, .func 66 [] [.ptr cp 0 1]] s1 = some (.bool (l.any (badR held)), s2) := k2
  rw [show ([x0] : List AV).length = 1 from rfl, k2', bnd, not_b]
  exact ⟨s2, rfl, e1.trans e2⟩

theorem ref_held_loop (k : Nat) {x0 v : AV} {held : List Int} {l : List Rn} (hw : ∀ r ∈ l, WfR r) (hb : l.length ≤ 4611686018427387904) : ∀ (n i : Nat) (s : Store), IsSl s x0 .u64 held → IsRuns s v l → i ≤ l.length → l.length - i < n →
    ∃ s', unisonref05_Held.l0 (k + 1) n x0 v (.int .i64 l.length) (.int .i64 i) s = some (.bool (!((l.drop i).any (badR held))), s') ∧ Ext s s'
  | 0, i, _, _, _, hi, hn => by omega
  | n + 1, i, s, h0, hv, hi, hn => by
    have hs : unisonref05_Held.l0 (k + 1) (n + 1) = fun x0 x1 x7 x8 s => unisonref05_Held.p6 (k + 1) (unisonref05_Held.l0 (k + 1) n) x0 x1 x7 x8 s := rfl
    rw [hs]
    clear hs
    simp only
    unfold unisonref05_Held.p6 unisonref05_Held.p5
    rw [lss_i]
    by_cases h : i < l.length
    · have hz : (i : Int) < (l.length : Int) := by omega
      rw [decide_eq_true hz, if_t]
      unfold unisonref05_Held.p4 unisonref05_Held.p3
      have hwi := hw _ (List.getElem_mem h)
      have hw1 : IntKind.i64.wrap ((i : Int) + 1) = ((i + 1 : Nat) : Int) := by rw [w_i64 (by omega) (by omega)]; omega
      obtain ⟨id, hvv, hidn, ha⟩ := runs_at hv h
      have e1 := Ext.push s (.cells (rcells l[i]) false)
      subst hvv
      simp only [bnd, guard_tt, guard_ff, guard_tf, guard_ft, pick_t, pick_f, if_t, if_f, add_i, sub_i, lss_i, leq_i, gtr_i, geq_i, eql_i, neq_i, min_i, max_i, conv_i, len_sl, len_nil, not_b, cells_agg, new_s, fld_p, nil_p, idx_r h, load_run ha i h, ref_run hwi]
      generalize (s.push (.cells (rcells l[i]) false)) = s1 at *
      have ha1 := ha.ext hidn e1
      rw [List.drop_eq_getElem_cons h, List.any_cons]
      by_cases hr : runOk l[i] = true
      · have hrr := hwi.1
        have eb : badR held l[i] = decide (atI held l[i].1 < lastR l[i]) := by unfold badR; rw [hr]; rfl
        have e2 := Ext.push s1 (.cells (rcells l[i]) false)
        simp only [hr, Bool.not_true, bnd, guard_tt, guard_ff, guard_tf, guard_ft, pick_t, pick_f, if_t, if_f, add_i, sub_i, lss_i, leq_i, gtr_i, geq_i, eql_i, neq_i, min_i, max_i, conv_i, len_sl, len_nil, not_b, cells_agg, new_s, fld_p, nil_p, idx_r h, fld_0 ha1 h, w_i64 (show -9223372036854775808 ≤ l[i].1 by omega) (show l[i].1 < 9223372036854775808 by omega), ref_at (h0.ext e1), load_run ha1 i h, aSame_self, ref_last hwi hr, eb]
        generalize (s1.push (.cells (rcells l[i]) false)) = s2 at *
        have e12 := e1.trans e2
        unfold unisonref05_Held.p2 unisonref05_Held.p1
        by_cases hc : atI held l[i].1 < lastR l[i]
        · simp only [decide_eq_true hc, bnd, guard_tt, guard_ff, guard_tf, guard_ft, pick_t, pick_f, if_t, if_f, add_i, sub_i, lss_i, leq_i, gtr_i, geq_i, eql_i, neq_i, min_i, max_i, conv_i, len_sl, len_nil, not_b, cells_agg, new_s, fld_p, nil_p, Bool.true_or, Bool.not_true]
          exact ⟨s2, rfl, e12⟩
        · simp only [decide_eq_false hc, bnd, guard_tt, guard_ff, guard_tf, guard_ft, pick_t, pick_f, if_t, if_f, add_i, sub_i, lss_i, leq_i, gtr_i, geq_i, eql_i, neq_i, min_i, max_i, conv_i, len_sl, len_nil, not_b, cells_agg, new_s, fld_p, nil_p, Bool.false_or, hw1]
          obtain ⟨s', k1, k2⟩ := ref_held_loop k hw hb n (i + 1) s2 (h0.ext e12) (hv.ext e12) (by omega) (by omega)
          exact ⟨s', k1, e12.trans k2⟩
      · have hr' : runOk l[i] = false := by simpa using hr
        have eb : badR held l[i] = true := by unfold badR; rw [hr']; rfl
        have hsk : ∀ (v : AV) (x : Option (AV × Store)), aSame v v x = x := fun v x => aSame_self v x
        simp only [hr', Bool.not_false, bnd, guard_tt, guard_ff, guard_tf, guard_ft, pick_t, pick_f, if_t, if_f, add_i, sub_i, lss_i, leq_i, gtr_i, geq_i, eql_i, neq_i, min_i, max_i, conv_i, len_sl, len_nil, not_b, cells_agg, new_s, fld_p, nil_p, hsk, eb, Bool.true_or, Bool.not_true]
        unfold unisonref05_Held.p2
        rw [if_t]
        exact ⟨s1, rfl, e1⟩
    · have hz : ¬ (i : Int) < (l.length : Int) := by omega
      rw [decide_eq_false hz, if_f]
      unfold unisonref05_Held.p0
      exact ⟨s, by rw [List.drop_eq_nil_of_le (by omega)]; rfl, Ext.refl _⟩
theorem ref_held {s : Store} {x0 v : AV} {held : List Int} {l : List Rn} (h0 : IsSl s x0 .u64 held) (hl : IsRuns s v l) (hw : ∀ r ∈ l, WfR r) (k : Nat) (hb : l.length ≤ k) (hk : k ≤ 1000000000) :
    ∃ s', rn (k + 2) 30 [x0, v] s = some (.bool (!(l.any (badR held))), s') ∧ Ext s s' := by
  rw [unisonref05_Held.eq]
  unfold unisonref05_Held.f unisonref05_Held.p8 unisonref05_Held.p7
  rw [len_runs hl]
  obtain ⟨s', k1, k2⟩ := ref_held_loop k hw (by omega) (k + 1) 0 s h0 hl (by omega) (by omega)
  rw [Int.natCast_zero, List.drop_zero] at k1
  exact ⟨s', k1, k2⟩
end Go.Proofs.Ytmaidlndikcgkaa.Sim
