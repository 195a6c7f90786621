/- Layer 22: the law InstNone, what it comes to. No condition. -/
import Derived.Test.YtmaidlndikcgkaaB22A
import Derived.Test.YtmaidlndikcgkaaFunNone
namespace Go.Proofs.Ytmaidlndikcgkaa.Sim
set_option linter.unusedSimpArgs false
set_option linter.unusedVariables false

def noF : List AV := [AV.int .u8 0, AV.int .u8 0, AV.int .u8 0, AV.int .u8 0, AV.int .u64 0, AV.int .u64 0, AV.int .u32 0, AV.int .u32 0, AV.int .u32 0, AV.int .u64 0, AV.int .u64 0, AV.nilsl, AV.nilsl, AV.nilsl, AV.nilsl, AV.nilsl]
theorem decided_nil (k : Nat) (s : Store) : rn (k + 1) 17 [.nilptr] s = some (.tuple [.nilsl, .bool false], s) := by rw [inst_Inst_Decided.eq]; kernel_rfl
theorem come_nil (k : Nat) (s : Store) : rn (k + 1) 16 [.nilptr, .agg noF] s = some (.bool false, s.push (.cells noF false)) := by rw [inst_Inst_Come.eq]; kernel_rfl
theorem step_nil (k : Nat) (a b : AV) (s : Store) : rn (k + 1) 23 [.nilptr, a, b, .nilsl] s = some (.bool false, s) := by rw [inst_Inst_Step.eq]; kernel_rfl
theorem out_nil (k : Nat) (s : Store) : rn (k + 1) 27 [.nilptr] s = some (.nilsl, s.push (.cells [.nilptr] false)) := by
  rw [inst_Inst_Out.eq]
  unfold inst_Inst_Out.f inst_Inst_Out.p13 inst_Inst_Out.p12
  have hc : ∀ {α : Type} (f : List AV → Option α), aCells .nilptr f = f [.nilptr] := fun f => rfl
  have hl : ∀ {α : Type} (f : AV → Option α), aLoad1 (.ptr s.next 0 1) (s.push (.cells [.nilptr] false)) f = f .nilptr := fun f => load_1 (by rw [get_push, if_pos rfl]) rfl rfl
  have he : ∀ {α : Type} (f : Bool → Option α), aEq .ptr .nilptr .nilptr f = f true := fun f => rfl
  simp only [hc, bnd, guard_tt, guard_ff, guard_tf, guard_ft, pick_t, pick_f, if_t, if_f, add_i, sub_i, lss_i, leq_i, gtr_i, geq_i, eql_i, neq_i, min_i, max_i, conv_i, len_sl, len_nil, not_b, cells_agg, new_s, fld_p, nil_p, List.length_cons, List.length_nil, hl, he]
theorem round_nil (k : Nat) (s : Store) : rn (k + 1) 24 [.nilptr] s = some (.int .u64 0, s) := by rw [inst_Inst_Round.eq]; kernel_rfl
theorem est_nil (k : Nat) (s : Store) : rn (k + 1) 25 [.nilptr] s = some (.nilsl, s) := by rw [inst_Inst_Est.eq]; kernel_rfl

theorem law_none {s : Store} {bv hv mv : AV} {nn me number most : Int} {base held : List Int} {l : List Rn} (hb : IsSl s bv .u64 base) (hh : IsSl s hv .u64 held) (hl : IsRuns s mv l) (hub : U base) (hw : ∀ r ∈ l, WfR r) (hm : most < 9223372036854775808) :
    ∃ s', rn 10001 7 [.agg [.int .i64 nn, .int .i64 me, .int .u64 number, bv, .int .i64 most, hv, mv]] s = some (.bool true, s') := by
  rw [show 10001 = 10000 + 1 from rfl, unisonlaw22_InstNone.eq]
  unfold unisonlaw22_InstNone.f unisonlaw22_InstNone.p5 unisonlaw22_InstNone.p4
  rw [cells_agg, new_s]
  have hx : (s.push (.cells [.int .i64 nn, .int .i64 me, .int .u64 number, bv, .int .i64 most, hv, mv] false)).get s.next = .cells [.int .i64 nn, .int .i64 me, .int .u64 number, bv, .int .i64 most, hv, mv] false := by rw [get_push, if_pos rfl]
  have hlt : s.next < (s.push (.cells [.int .i64 nn, .int .i64 me, .int .u64 number, bv, .int .i64 most, hv, mv] false)).next := Nat.lt_succ_self _
  have e1 := Ext.push s (.cells [.int .i64 nn, .int .i64 me, .int .u64 number, bv, .int .i64 most, hv, mv] false)
  have hb := hb.ext e1
  have hh := hh.ext e1
  have hl := hl.ext e1
  generalize s.push (.cells [.int .i64 nn, .int .i64 me, .int .u64 number, bv, .int .i64 most, hv, mv] false) = s1 at hx hb hh hl hlt
  clear e1
  generalize s.next = p at hx hlt
  have hc : [AV.int .i64 nn, .int .i64 me, .int .u64 number, bv, .int .i64 most, hv, mv].length = 7 := rfl
  rw [hc]
  have ld : ∀ {s' : Store}, Ext s1 s' → ∀ {j : Nat} {v : AV}, [AV.int .i64 nn, .int .i64 me, .int .u64 number, bv, .int .i64 most, hv, mv][j]? = some v → ∀ {α : Type} (f : AV → Option α), aLoad1 (.ptr p (0 + j) 7) s' f = f v := fun e j v hv α f => ld_fld ((e.get p hlt).trans hx) hc hv f
  have r1 := Ext.refl s1
  have aw := fun t : Store => awake_rn 9999 t
  simp only [Nat.reduceAdd] at aw
  simp only [bnd, guard_tt, guard_ff, guard_tf, guard_ft, pick_t, pick_f, if_t, if_f, add_i, sub_i, lss_i, leq_i, gtr_i, geq_i, eql_i, neq_i, min_i, max_i, conv_i, len_sl, len_nil, not_b, cells_agg, new_s, fld_p, nil_p, ld r1 (j := 3) rfl, len_is hb]
  by_cases h1 : (base.length : Int) > 100
  · simp only [decide_eq_true h1, bnd, guard_tt, guard_ff, guard_tf, guard_ft, pick_t, pick_f, if_t, if_f, add_i, sub_i, lss_i, leq_i, gtr_i, geq_i, eql_i, neq_i, min_i, max_i, conv_i, len_sl, len_nil, not_b, cells_agg, new_s, fld_p, nil_p, guard_skip, aw]
    exact ⟨_, rfl⟩
  simp only [decide_eq_false h1, bnd, guard_tt, guard_ff, guard_tf, guard_ft, pick_t, pick_f, if_t, if_f, add_i, sub_i, lss_i, leq_i, gtr_i, geq_i, eql_i, neq_i, min_i, max_i, conv_i, len_sl, len_nil, not_b, cells_agg, new_s, fld_p, nil_p, ld r1 (j := 5) rfl, len_is hh]
  by_cases h2 : (held.length : Int) > 100
  · simp only [decide_eq_true h2, bnd, guard_tt, guard_ff, guard_tf, guard_ft, pick_t, pick_f, if_t, if_f, add_i, sub_i, lss_i, leq_i, gtr_i, geq_i, eql_i, neq_i, min_i, max_i, conv_i, len_sl, len_nil, not_b, cells_agg, new_s, fld_p, nil_p, guard_skip, aw]
    exact ⟨_, rfl⟩
  simp only [decide_eq_false h2, bnd, guard_tt, guard_ff, guard_tf, guard_ft, pick_t, pick_f, if_t, if_f, add_i, sub_i, lss_i, leq_i, gtr_i, geq_i, eql_i, neq_i, min_i, max_i, conv_i, len_sl, len_nil, not_b, cells_agg, new_s, fld_p, nil_p, ld r1 (j := 6) rfl, len_runs hl]
  by_cases h3 : (l.length : Int) > 100
  · simp only [decide_eq_true h3, bnd, guard_tt, guard_ff, guard_tf, guard_ft, pick_t, pick_f, if_t, if_f, add_i, sub_i, lss_i, leq_i, gtr_i, geq_i, eql_i, neq_i, min_i, max_i, conv_i, len_sl, len_nil, not_b, cells_agg, new_s, fld_p, nil_p, guard_skip, aw]
    exact ⟨_, rfl⟩
  simp only [decide_eq_false h3, bnd, guard_tt, guard_ff, guard_tf, guard_ft, pick_t, pick_f, if_t, if_f, add_i, sub_i, lss_i, leq_i, gtr_i, geq_i, eql_i, neq_i, min_i, max_i, conv_i, len_sl, len_nil, not_b, cells_agg, new_s, fld_p, nil_p]
  unfold unisonlaw22_InstNone.p3
  obtain ⟨s2, x, ev, bv', k1, k2, k3, k4, k5, k6, k7⟩ := inst_new (nn := nn) (me := me) (number := number) hb hh hl hub hw hm (by omega) (by omega) 9992 (by omega) (by omega)
  have k1' : rn 10000 18 [.int .i64 nn, .int .i64 me, .int .u64 number, bv, .int .i64 most, hv, mv] s1 = some (.ptr x 0 11, s2) := k1
  simp only [bnd, guard_tt, guard_ff, guard_tf, guard_ft, pick_t, pick_f, if_t, if_f, add_i, sub_i, lss_i, leq_i, gtr_i, geq_i, eql_i, neq_i, min_i, max_i, conv_i, len_sl, len_nil, not_b, cells_agg, new_s, fld_p, nil_p, ld r1 (j := 0) rfl, ld r1 (j := 1) rfl, ld r1 (j := 2) rfl, ld r1 (j := 3) rfl, ld r1 (j := 4) rfl, ld r1 (j := 5) rfl, ld r1 (j := 6) rfl, k1']
  unfold unisonlaw22_InstNone.p2
  have k6i : IsRuns s2 ev (if mayR base most l = true ∧ (!(l.any (badR held))) = true then l else []) := by
    rcases k6 with ⟨h, h'⟩ | ⟨id, h, _, h', h''⟩
    · exact .inl ⟨h, h'⟩
    · exact .inr ⟨id, false, h, h', h''⟩
  have hle : (if mayR base most l = true ∧ (!(l.any (badR held))) = true then l else []).length ≤ 1000000 := by split <;> first | omega | (simp only [List.length_nil]; omega)
  obtain ⟨w, s3, j1, j2, j3⟩ := est_run k5 rfl rfl k6i hle 9998
  have j1' : rn 10000 25 [.ptr x 0 11] s2 = some (w, s3) := j1
  have j2i : IsRuns s3 w (if mayR base most l = true ∧ (!(l.any (badR held))) = true then l else []) := by
    rcases j2 with ⟨h, h'⟩ | ⟨id, h, _, h', h''⟩
    · exact .inl ⟨h, h'⟩
    · exact .inr ⟨id, false, h, h', h''⟩
  have e3 := k4.trans j3
  obtain ⟨s4, i1, i2⟩ := ref_may (hb.ext e3) (hl.ext e3) hub hw hm 9996 (by omega) (by omega)
  have i1' : rn 10000 29 [bv, .int .i64 most, mv] s3 = some (.bool (mayR base most l), s4) := i1
  have e4 := e3.trans i2
  obtain ⟨s5, i3, i4⟩ := ref_held (hh.ext e4) (hl.ext e4) hw 9998 (by omega) (by omega)
  have i3' : rn 10000 30 [hv, mv] s4 = some (.bool (!(l.any (badR held))), s5) := i3
  simp only [bnd, guard_tt, guard_ff, guard_tf, guard_ft, pick_t, pick_f, if_t, if_f, add_i, sub_i, lss_i, leq_i, gtr_i, geq_i, eql_i, neq_i, min_i, max_i, conv_i, len_sl, len_nil, not_b, cells_agg, new_s, fld_p, nil_p, j1', len_runs j2i, ld e3 (j := 3) rfl, ld e3 (j := 4) rfl, ld e3 (j := 6) rfl, ld k4 (j := 3) rfl, ld k4 (j := 4) rfl, ld k4 (j := 6) rfl, aSame_self, i1']
  have hlen : decide ((((if mayR base most l = true ∧ (!(l.any (badR held))) = true then l else []).length : Nat) : Int) > 0) = (mayR base most l && !(l.any (badR held))) := by
    by_cases hq : mayR base most l = true ∧ (!(l.any (badR held))) = true
    · rw [if_pos hq, hq.1, hq.2]
      have : l ≠ [] := fun q => by rw [q] at hq; simp [mayR] at hq
      have : 0 < l.length := List.length_pos_iff.2 this
      simp; omega
    · rw [if_neg hq]
      cases h1 : mayR base most l <;> cases h2 : !(l.any (badR held)) <;> simp_all
  have eb : ∀ (a b : Bool) {α : Type} (f : Bool → Option α), aEq .bool (.bool a) (.bool b) f = f (a == b) := fun a b α f => rfl
  have fin : ∀ t : Store, ∃ s', unisonlaw22_InstNone.p1 10000 (.ptr p 0 7) (.bool false) t = some (.bool true, s') ∨ ¬ Ext s1 t := fun t => by
    by_cases et : Ext s1 t
    · unfold unisonlaw22_InstNone.p1 unisonlaw22_InstNone.p0
      have n1 := fun t => decided_nil 9999 t
      have n2 := fun t => come_nil 9999 t
      have n3 := fun a b t => step_nil 9999 a b t
      have n4 := fun t => out_nil 9999 t
      have n5 := fun t => round_nil 9999 t
      have n6 := fun t => est_nil 9999 t
      simp only [Nat.reduceAdd] at n1 n2 n3 n4 n5 n6
      have x0 : ∀ {α : Type} (f : AV → Option α), aExtract 0 (.tuple [.nilsl, .bool false]) f = f .nilsl := fun f => rfl
      have x1 : ∀ {α : Type} (f : AV → Option α), aExtract 1 (.tuple [.nilsl, .bool false]) f = f (.bool false) := fun f => rfl
      have xb : ∀ {α : Type} (f : List AV → Option α), aBuild [] [AV.int .u8 0, AV.int .u8 0, AV.int .u8 0, AV.int .u8 0, AV.int .u64 0, AV.int .u64 0, AV.int .u32 0, AV.int .u32 0, AV.int .u32 0, AV.int .u64 0, AV.int .u64 0, AV.nilsl, AV.nilsl, AV.nilsl, AV.nilsl, AV.nilsl] f = f noF := fun f => rfl
      have et2 : Ext s1 (t.push (.cells noF false)) := et.trans (Ext.push _ _)
      have z : ((0 : Int) == 0) = true := rfl
      simp only [bnd, guard_tt, guard_ff, guard_tf, guard_ft, pick_t, pick_f, if_t, if_f, add_i, sub_i, lss_i, leq_i, gtr_i, geq_i, eql_i, neq_i, min_i, max_i, conv_i, len_sl, len_nil, not_b, cells_agg, new_s, fld_p, nil_p, n1, x0, x1, xb, n2, Bool.not_false, ld et2 (j := 5) rfl, ld et2 (j := 6) rfl, n3, n4, z, n5, n6, aw]
      exact ⟨_, .inl rfl⟩
    · exact ⟨t, .inr et⟩
  have fin' : ∀ t : Store, Ext s1 t → ∃ s', unisonlaw22_InstNone.p1 10000 (.ptr p 0 7) (.bool false) t = some (.bool true, s') := fun t et => by
    obtain ⟨s', h | h⟩ := fin t
    · exact ⟨s', h⟩
    · exact absurd et h
  rw [hlen]
  cases hmay : mayR base most l
  · simp only [bnd, guard_tt, guard_ff, guard_tf, guard_ft, pick_t, pick_f, if_t, if_f, add_i, sub_i, lss_i, leq_i, gtr_i, geq_i, eql_i, neq_i, min_i, max_i, conv_i, len_sl, len_nil, not_b, cells_agg, new_s, fld_p, nil_p, eb, guard_skip, Bool.false_and, beq_self_eq_true, Bool.not_true]
    exact fin' _ e4
  · simp only [bnd, guard_tt, guard_ff, guard_tf, guard_ft, pick_t, pick_f, if_t, if_f, add_i, sub_i, lss_i, leq_i, gtr_i, geq_i, eql_i, neq_i, min_i, max_i, conv_i, len_sl, len_nil, not_b, cells_agg, new_s, fld_p, nil_p, eb, ld e4 (j := 5) rfl, ld e4 (j := 6) rfl, i3', Bool.true_and, beq_self_eq_true, Bool.not_true]
    exact fin' _ (e4.trans i4)
end Go.Proofs.Ytmaidlndikcgkaa.Sim
