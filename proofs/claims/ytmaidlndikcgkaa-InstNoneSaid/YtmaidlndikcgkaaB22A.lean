/- Layer 22: a new instance. No condition. -/
import Derived.Test.YtmaidlndikcgkaaB23E
namespace Go.Proofs.Ytmaidlndikcgkaa.Sim
set_option linter.unusedSimpArgs false
set_option linter.unusedVariables false

theorem IsSl.fr1 {id : Nat} {s s' : Store} {v : AV} {k : IntKind} {xs : List Int} (h : IsSl s v k xs) (e : Fr1 id s s') (hx : ∀ i b c d f, v = .sl i b c d f → i ≠ id) : IsSl s' v k xs := by
  rcases h with h | ⟨l, ro, rfl, h2, h3⟩
  · exact .inl h
  · exact .inr ⟨l, ro, rfl, Nat.lt_of_lt_of_le h2 e.next, by rw [e.get l h2 (hx _ _ _ _ _ rfl)]; exact h3⟩
theorem IsRuns.fr1 {id : Nat} {s s' : Store} {v : AV} {l : List Rn} (h : IsRuns s v l) (e : Fr1 id s s') (hx : ∀ i b c d f, v = .sl i b c d f → i ≠ id) : IsRuns s' v l := by
  rcases h with h | ⟨q, ro, rfl, h2, h3⟩
  · exact .inl h
  · exact .inr ⟨q, ro, rfl, Nat.lt_of_lt_of_le h2 e.next, by rw [e.get q h2 (hx _ _ _ _ _ rfl)]; exact h3⟩

/-- May runs be a batch here? -/
theorem ibatch_run {s : Store} {x : Nat} {cs : List AV} {bv v : AV} {most : Int} {base : List Int} {l : List Rn} (hx : s.get x = .cells cs false) (hc : cs.length = 11) (h3 : cs[3]? = some bv) (h4 : cs[4]? = some (.int .i64 most))
    (hb : IsSl s bv .u64 base) (hl : IsRuns s v l) (hub : U base) (hw : ∀ r ∈ l, WfR r) (hm : most < 9223372036854775808) (k : Nat) (hk : l.length ≤ k) (hk2 : k ≤ 1000000000) :
    ∃ s', rn (k + 5) 52 [.ptr x 0 11, v] s = some (.bool (mayR base most l), s') ∧ Ext s s' := by
  rw [inst_Inst_batch.eq]
  unfold inst_Inst_batch.f inst_Inst_batch.p2 inst_Inst_batch.p1 inst_Inst_batch.p0
  obtain ⟨s', k1, k2⟩ := bat_may hb hl hub hw hm k hk hk2
  simp only [bnd, guard_tt, guard_ff, guard_tf, guard_ft, pick_t, pick_f, if_t, if_f, add_i, sub_i, lss_i, leq_i, gtr_i, geq_i, eql_i, neq_i, min_i, max_i, conv_i, len_sl, len_nil, not_b, cells_agg, new_s, fld_p, nil_p, ld_fld hx hc h3, ld_fld hx hc h4, k1]
  exact ⟨s', rfl, k2⟩

theorem set_at {α : Type} {l : List α} {i : Nat} {v : α} (h : l[i]? = some v) : l.set i v = l := by
  apply List.ext_getElem?
  intro j
  rw [List.getElem?_set]
  by_cases e : i = j
  · subst e
    have := (List.getElem?_eq_some_iff.1 h).1
    rw [if_pos rfl, if_pos this, h]
  · rw [if_neg e]

/-- An instance as a round of it begins. -/
def begun (cs : List AV) (r : Int) (ev : AV) : List AV := (((cs.set 5 (.int .u64 r)).set 8 (.bool false)).set 7 .nilsl).set 6 ev
theorem begin_run {s : Store} {x : Nat} {cs : List AV} {bv hv mv ev : AV} {most r : Int} {base held : List Int} {e l : List Rn} (hx : s.get x = .cells cs false) (hc : cs.length = 11) (hxl : x < s.next) (h3 : cs[3]? = some bv) (h4 : cs[4]? = some (.int .i64 most)) (h6 : cs[6]? = some ev) (hev : IsRuns s ev e)
    (hb : IsSl s bv .u64 base) (hbx : ∀ i b c d f, bv = .sl i b c d f → i ≠ x) (hh : IsSl s hv .u64 held) (hhx : ∀ i b c d f, hv = .sl i b c d f → i ≠ x) (hl : IsRuns s mv l) (hlx : ∀ i b c d f, mv = .sl i b c d f → i ≠ x)
    (hub : U base) (hw : ∀ r ∈ l, WfR r) (hm : most < 9223372036854775808) (hhl : held.length ≤ 1000000) (k : Nat) (hk : l.length < k) (hk2 : k ≤ 1000000) :
    ∃ s' ev', rn (k + 7) 34 [.ptr x 0 11, .int .u64 r, hv, mv] s = some (.tuple [], s') ∧ s'.get x = .cells (begun cs r ev') false ∧ Fr1 x s s' ∧
      ((e = [] ∧ mayR base most l = true ∧ (!(l.any (badR held))) = true) → OwnL rcells 3 s' ev' l s.next) ∧ (¬ (e = [] ∧ mayR base most l = true ∧ (!(l.any (badR held))) = true) → ev' = ev) := by
  rw [show k + 7 = (k + 6) + 1 from rfl, inst_Inst_begin.eq]
  unfold inst_Inst_begin.f inst_Inst_begin.p0
  have cel : ∀ (v : AV), v.one = true → ∀ {α : Type} (f : List AV → Option α), aCells v f = f [v] := fun v hv α f => by cases v <;> first | rfl | cases hv
  have f1 := fun {α : Type} (g : Store → Option α) => st_fld (ep := 11) (j := 5) (v := .int .u64 r) hx hc (by omega) (cel _ rfl) g
  have g1 : (s.set x (.cells (cs.set 5 (.int .u64 r)) false)).get x = .cells (cs.set 5 (.int .u64 r)) false := by rw [get_set, if_pos rfl]
  have e1 := Fr1.set x s (.cells (cs.set 5 (.int .u64 r)) false)
  generalize s.set x (.cells (cs.set 5 (.int .u64 r)) false) = s1 at f1 g1 e1
  have f2 := fun {α : Type} (g : Store → Option α) => st_fld (ep := 11) (j := 8) (v := .bool false) g1 (by rw [List.length_set]; exact hc) (by omega) (cel _ rfl) g
  have g2 : (s1.set x (.cells ((cs.set 5 (.int .u64 r)).set 8 (.bool false)) false)).get x = .cells ((cs.set 5 (.int .u64 r)).set 8 (.bool false)) false := by rw [get_set, if_pos rfl]
  have e2 := e1.trans (Fr1.set x s1 (.cells ((cs.set 5 (.int .u64 r)).set 8 (.bool false)) false))
  generalize s1.set x (.cells ((cs.set 5 (.int .u64 r)).set 8 (.bool false)) false) = s2 at f2 g2 e2
  have f3 := fun {α : Type} (g : Store → Option α) => st_fld (ep := 11) (j := 7) (v := .nilsl) g2 (by rw [List.length_set, List.length_set]; exact hc) (by omega) (cel _ rfl) g
  have g3 : (s2.set x (.cells (((cs.set 5 (.int .u64 r)).set 8 (.bool false)).set 7 .nilsl) false)).get x = .cells (((cs.set 5 (.int .u64 r)).set 8 (.bool false)).set 7 .nilsl) false := by rw [get_set, if_pos rfl]
  have e3 := e2.trans (Fr1.set x s2 (.cells (((cs.set 5 (.int .u64 r)).set 8 (.bool false)).set 7 .nilsl) false))
  generalize s2.set x (.cells (((cs.set 5 (.int .u64 r)).set 8 (.bool false)).set 7 .nilsl) false) = s3 at f3 g3 e3
  generalize hcs3 : ((cs.set 5 (.int .u64 r)).set 8 (.bool false)).set 7 .nilsl = cs3 at f3 g3
  have hc3 : cs3.length = 11 := by rw [← hcs3]; simp [hc]
  have h33 : cs3[3]? = some bv := by rw [← hcs3]; simpa [List.getElem?_set] using h3
  have h34 : cs3[4]? = some (.int .i64 most) := by rw [← hcs3]; simpa [List.getElem?_set] using h4
  have h36 : cs3[6]? = some ev := by rw [← hcs3]; simpa [List.getElem?_set] using h6
  have hbeg : ∀ v, begun cs r v = cs3.set 6 v := fun v => by rw [← hcs3]; rfl
  simp only [bnd, guard_tt, guard_ff, guard_tf, guard_ft, pick_t, pick_f, if_t, if_f, add_i, sub_i, lss_i, leq_i, gtr_i, geq_i, eql_i, neq_i, min_i, max_i, conv_i, len_sl, len_nil, not_b, cells_agg, new_s, fld_p, nil_p, f1, f2, f3, ld_fld g3 hc3 h36, len_runs hev]
  by_cases he : e = []
  · subst he
    have hz : (((([] : List Rn).length : Nat) : Int) == 0) = true := rfl
    obtain ⟨s4, k1, k2⟩ := ibatch_run g3 hc3 h33 h34 (hb.fr1 e3 hbx) (hl.fr1 e3 hlx) hub hw hm (k + 1) (by omega) (by omega)
    have k1' : rn (k + 6) 52 [.ptr x 0 11, mv] s3 = some (.bool (mayR base most l), s4) := k1
    simp only [hz, bnd, guard_tt, guard_ff, guard_tf, guard_ft, pick_t, pick_f, if_t, if_f, add_i, sub_i, lss_i, leq_i, gtr_i, geq_i, eql_i, neq_i, min_i, max_i, conv_i, len_sl, len_nil, not_b, cells_agg, new_s, fld_p, nil_p, k1']
    have g4 : s4.get x = .cells cs3 false := (k2.get x (Nat.lt_of_lt_of_le hxl e3.next)).trans g3
    have e4 := e3.trans (k2.fr1 x)
    cases hmay : mayR base most l
    · simp only [bnd, guard_tt, guard_ff, guard_tf, guard_ft, pick_t, pick_f, if_t, if_f, add_i, sub_i, lss_i, leq_i, gtr_i, geq_i, eql_i, neq_i, min_i, max_i, conv_i, len_sl, len_nil, not_b, cells_agg, new_s, fld_p, nil_p]
      refine ⟨s4, ev, rfl, by rw [hbeg, set_at h36]; exact g4, e4, fun q => by simp at q, fun _ => rfl⟩
    · obtain ⟨s5, k3, k4⟩ := bat_held (hh.fr1 e4 hhx) (hl.fr1 e4 hlx) hw hhl (k + 1) (by omega) (by omega)
      have k3' : rn (k + 6) 53 [hv, mv] s4 = some (.bool (!(l.any (badR held))), s5) := k3
      simp only [bnd, guard_tt, guard_ff, guard_tf, guard_ft, pick_t, pick_f, if_t, if_f, add_i, sub_i, lss_i, leq_i, gtr_i, geq_i, eql_i, neq_i, min_i, max_i, conv_i, len_sl, len_nil, not_b, cells_agg, new_s, fld_p, nil_p, k3']
      have g5 : s5.get x = .cells cs3 false := (k4.get x (Nat.lt_of_lt_of_le hxl e4.next)).trans g4
      have e5 := e4.trans (k4.fr1 x)
      cases hheld : !(l.any (badR held))
      · simp only [bnd, guard_tt, guard_ff, guard_tf, guard_ft, pick_t, pick_f, if_t, if_f, add_i, sub_i, lss_i, leq_i, gtr_i, geq_i, eql_i, neq_i, min_i, max_i, conv_i, len_sl, len_nil, not_b, cells_agg, new_s, fld_p, nil_p]
        refine ⟨s5, ev, rfl, by rw [hbeg, set_at h36]; exact g5, e5, fun q => by simp at q, fun _ => rfl⟩
      · obtain ⟨cv, s6, k5, k6, k7⟩ := clone_runs (hl.fr1 e5 hlx) (by omega) (k + 5)
        have k5' : rn (k + 6) 32 [mv] s5 = some (cv, s6) := k5
        have g6 : s6.get x = .cells cs3 false := (k7.get x (Nat.lt_of_lt_of_le hxl e5.next)).trans g5
        have e6 := e5.trans (k7.fr1 x)
        have hcv : cv.one = true := by rcases k6 with ⟨rfl, _⟩ | ⟨id, rfl, _⟩ <;> rfl
        simp only [bnd, guard_tt, guard_ff, guard_tf, guard_ft, pick_t, pick_f, if_t, if_f, add_i, sub_i, lss_i, leq_i, gtr_i, geq_i, eql_i, neq_i, min_i, max_i, conv_i, len_sl, len_nil, not_b, cells_agg, new_s, fld_p, nil_p, k5', st_fld (ep := 11) (j := 6) g6 hc3 (by omega) (cel cv hcv)]
        refine ⟨_, cv, rfl, by rw [get_set, if_pos rfl, hbeg], e6.trans (Fr1.set x s6 _), fun _ => ?_, fun q => by simp at q⟩
        rcases k6 with ⟨rfl, hl0⟩ | ⟨id, rfl, h7, h8, h9⟩
        · exact .inl ⟨rfl, hl0⟩
        · have hn5 : s.next ≤ s5.next := e5.next
          exact .inr ⟨id, rfl, by omega, h8, by rw [get_set, if_neg (by omega)]; exact h9⟩
  · have hz : (((e.length : Nat) : Int) == 0) = false := by
      have : e.length ≠ 0 := fun q => he (List.length_eq_zero_iff.1 q)
      simp; omega
    simp only [hz, bnd, guard_tt, guard_ff, guard_tf, guard_ft, pick_t, pick_f, if_t, if_f, add_i, sub_i, lss_i, leq_i, gtr_i, geq_i, eql_i, neq_i, min_i, max_i, conv_i, len_sl, len_nil, not_b, cells_agg, new_s, fld_p, nil_p]
    refine ⟨s3, ev, rfl, by rw [hbeg, set_at h36]; exact g3, e3, fun q => absurd q.1 he, fun _ => rfl⟩

theorem Ext.reserve (n : Nat) (s : Store) : Ext s (reserve n s) := ⟨by simp [Sim.reserve], fun l hl => by simp only [Sim.reserve, if_pos hl]⟩
theorem mk_kept {n : Nat} (h : n ≤ 1000) (t : Store) {α : Type} (f : AV → Store → Option α) : aMakeSlice [AV.nilptr, AV.nilptr] 2 16 (.int .i64 (n : Int)) (.int .i64 (n : Int)) t f = f (.sl t.next 0 n 2 (n * 2)) (t.push (.cells (List.replicate n [AV.nilptr, AV.nilptr]).flatten false)) := by
  simp only [aMakeSlice]
  rw [if_pos ⟨by omega, by omega, by omega, by omega⟩, Int.toNat_natCast]

/-- What a new instance has. -/
def inew (n : Nat) (me' : Int) (number : Int) (bv : AV) (most : Int) (fv : Nat) : List AV := [.int .i64 n, .int .i64 me', .int .u64 number, bv, .int .i64 most, .int .u64 0, .nilsl, .nilsl, .bool false, .nilsl, .sl fv 0 n 2 (n * 2)]
theorem inst_new {s : Store} {bv hv mv : AV} {nn me number most : Int} {base held : List Int} {l : List Rn} (hb : IsSl s bv .u64 base) (hh : IsSl s hv .u64 held) (hl : IsRuns s mv l)
    (hub : U base) (hw : ∀ r ∈ l, WfR r) (hm : most < 9223372036854775808) (hbl : base.length ≤ 1000000) (hhl : held.length ≤ 1000000) (k : Nat) (hk : l.length < k) (hk2 : k ≤ 1000000) :
    ∃ s' x ev bv', rn (k + 8) 18 [.int .i64 nn, .int .i64 me, .int .u64 number, bv, .int .i64 most, hv, mv] s = some (.ptr x 0 11, s') ∧ s.next ≤ x ∧ x < s'.next ∧ Ext s s' ∧
      s'.get x = .cells (begun (inew (max 1 (min nn 64)).toNat (max 0 (min me (IntKind.i64.wrap (max 1 (min nn 64) - 1)))) number bv' most (s.next + 11)) 0 ev) false ∧
      OwnL rcells 3 s' ev (if mayR base most l = true ∧ (!(l.any (badR held))) = true then l else []) s.next ∧ OwnN s' bv' base s.next ∧ s'.get (s.next + 11) = .cells (List.replicate (max 1 (min nn 64)).toNat [AV.nilptr, AV.nilptr]).flatten false ∧ s.next + 11 < x ∧ (∀ i b c d f, bv' = .sl i b c d f → i ≠ x ∧ i ≠ s.next + 11) := by
  rw [show k + 8 = (k + 7) + 1 from rfl, inst_New.eq]
  unfold inst_New.f inst_New.p3 inst_New.p2 inst_New.p1 inst_New.p0
  rw [min_i, max_i]
  obtain ⟨n, hn⟩ : ∃ n : Nat, max 1 (min nn 64) = n := ⟨(max 1 (min nn 64)).toNat, by omega⟩
  have hn1 : 1 ≤ n ∧ n ≤ 64 := by omega
  rw [hn]
  obtain ⟨cv, sA, k1, k2, k3⟩ := clone_u64 (hb.ext (Ext.reserve 15 s)) hbl (k + 6)
  have k1' : rn (k + 7) 33 [bv] (reserve 15 s) = some (cv, sA) := k1
  have hA : s.next + 15 ≤ sA.next := k3.next
  have hcv : cv.one = true := by rcases k2 with ⟨rfl, _⟩ | ⟨id, rfl, _⟩ <;> rfl
  have cel : ∀ (v : AV), v.one = true → ∀ {α : Type} (f : List AV → Option α), aCells v f = f [v] := fun v hv α f => by cases v <;> first | rfl | cases hv
  have hbd : ∀ (a b c d e f : AV), a.one = true → b.one = true → c.one = true → d.one = true → e.one = true → f.one = true → ∀ {α : Type} (g : List AV → Option α), aBuild [(0, 1, a), (1, 1, b), (2, 1, c), (3, 1, d), (4, 1, e), (10, 1, f)] [AV.int .i64 0, AV.int .i64 0, AV.int .u64 0, AV.nilsl, AV.int .i64 0, AV.int .u64 0, AV.nilsl, AV.nilsl, AV.bool false, AV.nilsl, AV.nilsl] g = g [a, b, c, d, e, .int .u64 0, .nilsl, .nilsl, .bool false, .nilsl, f] := fun a b c d e f ha hb hc hd he hf α g => by
    simp only [aBuild, cel a ha, cel b hb, cel c hc, cel d hd, cel e he, cel f hf]; rfl
  simp only [bnd, guard_tt, guard_ff, guard_tf, guard_ft, pick_t, pick_f, if_t, if_f, add_i, sub_i, lss_i, leq_i, gtr_i, geq_i, eql_i, neq_i, min_i, max_i, conv_i, len_sl, len_nil, not_b, cells_agg, new_s, fld_p, nil_p, atRow, k1', mk_kept (show n ≤ 1000 by omega), Option.map_some]
  rw [hbd _ _ _ _ _ _ rfl rfl rfl hcv rfl rfl]
  simp only [bnd, guard_tt, guard_ff, guard_tf, guard_ft, pick_t, pick_f, if_t, if_f, add_i, sub_i, lss_i, leq_i, gtr_i, geq_i, eql_i, neq_i, min_i, max_i, conv_i, len_sl, len_nil, not_b, cells_agg, new_s, fld_p, nil_p, Store.push]
  have hg : ∀ sC : Store, sC.next = sA.next + 1 → (∀ j, sC.get j = if j = sA.next then .cells (inew n (max 0 (min me (IntKind.i64.wrap ((n : Int) - 1)))) number cv most (s.next + 11)) false else if j = s.next + 11 then .cells (List.replicate n [AV.nilptr, AV.nilptr]).flatten false else sA.get j) →
      ∃ s' ev, rn (k + 7) 34 [.ptr sA.next 0 11, .int .u64 0, hv, mv] sC = some (.tuple [], s') ∧ sA.next < s'.next ∧ Ext s s' ∧ s'.get sA.next = .cells (begun (inew n (max 0 (min me (IntKind.i64.wrap ((n : Int) - 1)))) number cv most (s.next + 11)) 0 ev) false ∧
        OwnL rcells 3 s' ev (if mayR base most l = true ∧ (!(l.any (badR held))) = true then l else []) s.next ∧ OwnN s' cv base s.next ∧ s'.get (s.next + 11) = .cells (List.replicate n [AV.nilptr, AV.nilptr]).flatten false := fun sC hCn hC => by
    have hCA : ∀ j, j ≠ s.next + 11 → j < sA.next → sC.get j = sA.get j := fun j h1 h2 => by rw [hC, if_neg (by omega), if_neg h1]
    have hCs : Ext s sC := ⟨by omega, fun j hj => by rw [hCA j (by omega) (by omega)]; exact (k3.get j (by simp only [Sim.reserve]; omega)).trans ((Ext.reserve 15 s).get j hj)⟩
    have hcvC : OwnN sC cv base s.next := by
      rcases k2 with h | ⟨id, rfl, h2, h3, h4⟩
      · exact .inl h
      · have h2' : s.next + 15 ≤ id := h2
        exact .inr ⟨id, rfl, by omega, by omega, by rw [hCA id (by omega) h3]; exact h4⟩
    have hcx : ∀ i b c d f, cv = .sl i b c d f → i ≠ sA.next := fun i b c d f q => by
      rcases k2 with ⟨rfl, _⟩ | ⟨id, rfl, h2, h3, h4⟩
      · cases q
      · injection q with q1; omega
    obtain ⟨s', ev, j1, j2, j3, j4, j5⟩ := begin_run (ev := .nilsl) (e := []) (r := 0) (by rw [hC, if_pos rfl]) rfl (by omega) rfl rfl rfl (.inl ⟨rfl, rfl⟩) hcvC.is hcx (hh.ext hCs) (fun i b c d f q => by have := hh.lt i b c d f q; omega) (hl.ext hCs) (fun i b c d f q => by
      rcases hl with ⟨rfl, _⟩ | ⟨id, ro, rfl, h2, _⟩
      · cases q
      · injection q with q1; omega) hub hw hm hhl k hk hk2
    refine ⟨s', ev, j1, Nat.lt_of_lt_of_le (by omega) j3.next, ⟨Nat.le_trans (by omega) j3.next, fun j hj => (j3.get j (by omega) (by omega)).trans (hCs.get j hj)⟩, j2, ?_, ?_, (j3.get _ (by omega) (by omega)).trans (by rw [hC, if_neg (by omega), if_pos rfl])⟩
    · by_cases hq : mayR base most l = true ∧ (!(l.any (badR held))) = true
      · rw [if_pos hq]
        exact (j4 ⟨rfl, hq⟩).mono (by omega)
      · rw [if_neg hq, j5 (fun q => hq q.2)]
        exact .nil _ _ _ _
    · rcases hcvC with h | ⟨id, rfl, h2, h3, h4⟩
      · exact .inl h
      · exact .inr ⟨id, rfl, h2, Nat.lt_of_lt_of_le h3 j3.next, by rw [j3.get id h3 (hcx _ _ _ _ _ rfl)]; exact h4⟩
  obtain ⟨s', ev, j1, j2, j3, j4, j5, j6, j7⟩ := hg ⟨sA.next + 1, fun j => if j = sA.next then .cells (inew n (max 0 (min me (IntKind.i64.wrap ((n : Int) - 1)))) number cv most (s.next + 11)) false else if j = s.next + 11 then .cells (List.replicate n [AV.nilptr, AV.nilptr]).flatten false else sA.get j⟩ rfl (fun j => rfl)
  have j1' := j1
  unfold inew at j1'
  refine ⟨s', sA.next, ev, cv, ?_, by omega, j2, j3, by rw [Int.toNat_natCast]; exact j4, j5, j6, by rw [Int.toNat_natCast]; exact j7, by omega, ?_⟩
  · show (rn (k + 7) 34 [.ptr sA.next 0 11, .int .u64 0, hv, mv] _).bind _ = _
    rw [j1']
    rfl
  · intro i b c d f q
    rcases k2 with ⟨rfl, _⟩ | ⟨id, rfl, h2, h3, h4⟩
    · cases q
    · injection q with q1
      have h2' : s.next + 15 ≤ id := h2
      omega

theorem est_run {s : Store} {x : Nat} {cs : List AV} {ev : AV} {l : List Rn} (hx : s.get x = .cells cs false) (hc : cs.length = 11) (h6 : cs[6]? = some ev) (hev : IsRuns s ev l) (hb : l.length ≤ 1000000) (k : Nat) :
    ∃ v' s', rn (k + 2) 25 [.ptr x 0 11] s = some (v', s') ∧ OwnL rcells 3 s' v' l s.next ∧ Ext s s' := by
  rw [inst_Inst_Est.eq]
  unfold inst_Inst_Est.f inst_Inst_Est.p0
  have hne : ∀ {α : Type} (f : Bool → Option α), aEq .ptr (.ptr x 0 11) .nilptr f = f false := fun f => rfl
  obtain ⟨v', s', k1, k2, k3⟩ := clone_runs hev hb k
  simp only [hne, bnd, guard_tt, guard_ff, guard_tf, guard_ft, pick_t, pick_f, if_t, if_f, add_i, sub_i, lss_i, leq_i, gtr_i, geq_i, eql_i, neq_i, min_i, max_i, conv_i, len_sl, len_nil, not_b, cells_agg, new_s, fld_p, nil_p, ld_fld hx hc h6, k1]
  exact ⟨v', s', rfl, k2, k3⟩
end Go.Proofs.Ytmaidlndikcgkaa.Sim
