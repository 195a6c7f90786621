/- Seat 11: the law BitsNil, its run. No condition. -/
import Derived.Test.YtffememmkkopmaaDoorFuns
import Derived.Test.YtffememmkkopmaaDoorSpTab
import Derived.Test.YtffememmkkopmaaDoorSimS
import Derived.KernelRfl
namespace Go.Proofs.YtffememmkkopmaaDoor.Sim
set_option linter.unusedSimpArgs false
theorem missing_nil (s : Store) (b c : Int) : run Tryd.prog 59 10 [.nilptr, .int .i64 b, .int .i64 c] s = some (.nilsl, s) := by
  rw [show 59 = 58 + 1 from rfl, bits_Set_Missing.eq]
  unfold bits_Set_Missing.f bits_Set_Missing.p6 bits_Set_Missing.p5 bits_Set_Missing.p4
  rw [max_i]
  have hs : bits_Set_Missing.l0 58 58 = fun x0 x2 x7 x8 s => bits_Set_Missing.p3 58 (bits_Set_Missing.l0 58 57) x0 x2 x7 x8 s := rfl
  rw [hs]
  simp only
  unfold bits_Set_Missing.p3
  have h1 : run Tryd.prog 58 11 [.nilptr] s = some (.int .i64 0, s) := by kernel_rfl
  have h2 : ¬ max b 0 < 0 := by omega
  rw [h1]
  simp only [bnd, guard_tt, guard_ff, guard_tf, guard_ft, pick_t, pick_f, if_t, if_f, add_i, sub_i, lss_i, leq_i, gtr_i, geq_i, eql_i, neq_i, min_i, max_i, conv_i, len_sl, len_nil, not_b, cells_agg, new_s, fld_p, nil_p, decide_eq_false h2]
  unfold bits_Set_Missing.p0
  rfl
theorem put_nil (a : Int) : run Tryd.prog 59 9 [.nilptr, .sl 1 0 1 1 1] ((Store.table .u8 tab).push (.cells [.int .i64 a] false)) = some (.int .i64 0, (Store.table .u8 tab).push (.cells [.int .i64 a] false)) := by kernel_rfl
theorem has_nil (a : Int) (s : Store) : run Tryd.prog 59 12 [.nilptr, .int .i64 a] s = some (.bool false, s) := by kernel_rfl
theorem size_nil (s : Store) : run Tryd.prog 59 11 [.nilptr] s = some (.int .i64 0, s) := by kernel_rfl
theorem count_nil (s : Store) : run Tryd.prog 59 13 [.nilptr] s = some (.int .i64 0, s) := by kernel_rfl
theorem full_nil (s : Store) : run Tryd.prog 59 17 [.nilptr] s = some (.bool true, s) := by kernel_rfl
theorem awake_nil (a : Int) : (run Tryd.prog 59 7 [] ((Store.table .u8 tab).push (.cells [.int .i64 a] false))).map (·.1) = some (.bool true) := by kernel_rfl

theorem nil_run (a b c : Int) : ∃ s', run Tryd.prog 60 5 [.int .i64 a, .int .i64 b, .int .i64 c] (Store.table .u8 tab) = some (.bool true, s') := by
  rw [show 60 = 59 + 1 from rfl, unisonlaw11_BitsNil.eq]
  unfold unisonlaw11_BitsNil.f unisonlaw11_BitsNil.p0
  have hb : ∀ (f : List AV → Option (AV × Store)), aBuild [(0, 1, .int .i64 a)] [AV.int .i64 0] f = f [.int .i64 a] := fun _ => rfl
  obtain ⟨⟨v, s'⟩, h1, h2⟩ := Option.map_eq_some_iff.1 (awake_nil a)
  simp only at h2
  subst h2
  have w : IntKind.i64.wrap (0 + 0) = 0 := rfl
  rw [hb, show (Store.table IntKind.u8 tab).next = 1 from rfl, put_nil]
  simp only [bnd, guard_tt, guard_ff, guard_tf, guard_ft, pick_t, pick_f, if_t, if_f, add_i, sub_i, lss_i, leq_i, gtr_i, geq_i, eql_i, neq_i, min_i, max_i, conv_i, len_sl, len_nil, not_b, cells_agg, new_s, fld_p, nil_p, has_nil, size_nil, count_nil, full_nil, missing_nil, h1, w, beq_self_eq_true, Bool.not_false]
  exact ⟨s', rfl⟩
set_option linter.unusedVariables false in
theorem lawBitsNil (a0 : _) (w0 : (shInt .i64).wf a0) (a1 : _) (w1 : (shInt .i64).wf a1) (a2 : _) (w2 : (shInt .i64).wf a2) : ∃ k s', run Tryd.prog k 5 ([] ++ ((shInt .i64).put a0 ((Store.table .u8 tab))).1 ++ ((shInt .i64).put a1 (((shInt .i64).put a0 (Store.table .u8 tab)).2)).1 ++ ((shInt .i64).put a2 (((shInt .i64).put a1 ((shInt .i64).put a0 (Store.table .u8 tab)).2).2)).1) ((shInt .i64).put a2 ((shInt .i64).put a1 ((shInt .i64).put a0 (Store.table .u8 tab)).2).2).2 = some (.bool true, s') := by
  obtain ⟨s', h⟩ := nil_run a0 a1 a2
  exact ⟨60, s', h⟩
end Go.Proofs.YtffememmkkopmaaDoor.Sim
