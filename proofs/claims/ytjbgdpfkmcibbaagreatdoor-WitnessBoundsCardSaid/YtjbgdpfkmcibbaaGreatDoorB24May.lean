/- Layer 24: configs that may be: the code's answer and the document's. No condition. -/
import Derived.Test.YtjbgdpfkmcibbaaGreatDoorB29A
namespace Go.Proofs.YtjbgdpfkmcibbaaGreatDoor.Sim
set_option linter.unusedSimpArgs false
set_option linter.unusedVariables false
set_option maxRecDepth 100000

structure Cfg where
  n : Int
  chunk : Int
  payload : Int
  credit : Int
  window : Int
  queue : Int
  batch : Int
  ahead : Int
  pulls : Int
  gather : Int
  bag : Int
  beat : Int
  again : Int
  wait : Int
  more : Int
  most : Int
def Cfg.cells (c : Cfg) : List AV := [.int .i64 c.n, .int .i64 c.chunk, .int .i64 c.payload, .int .i64 c.credit, .int .i64 c.window, .int .i64 c.queue, .int .i64 c.batch, .int .i64 c.ahead, .int .i64 c.pulls, .int .i64 c.gather, .int .i64 c.bag, .int .i64 c.beat, .int .i64 c.again, .int .i64 c.wait, .int .i64 c.more, .int .i64 c.most]
def inB (x a b : Int) : Bool := decide (a ≤ x) && decide (x ≤ b)
theorem inB_iff {x a b : Int} : inB x a b = true ↔ a ≤ x ∧ x ≤ b := by simp [inB]
def bagLeast (c : Cfg) : Int := IntKind.i64.wrap (IntKind.i64.wrap (c.window + c.pulls) + 8)
def Cfg.mayB (c : Cfg) : Bool :=
  inB c.n 1 64 && inB c.chunk 1 65536 && inB c.payload 0 1048576 && inB c.credit 1 64 && inB c.window 1 64 && inB c.queue 1 4096 && inB c.batch 1 4096 && inB c.ahead 1 8 && inB c.pulls 1 64 && inB c.gather c.payload 1073741824 && inB c.bag (bagLeast c) 4096 && inB c.beat 1 1048576 && inB c.again 1 1048576 && inB c.wait 1 1099511627776 && inB c.more 0 1099511627776 && inB c.most c.wait 1099511627776

theorem ext_push' {s t : Store} (e : Ext s t) (o : AObj) : Ext s (t.push o) := e.trans (Ext.push t o)

/-! ### the document's -/
theorem in_run (k : Nat) (x a b : Int) (t : Store) : rn (k + 1) 39 [.int .i64 x, .int .i64 a, .int .i64 b] t = some (.bool (inB x a b), t) := by
  rw [F39.eq]
  unfold F39.f F39.p0
  by_cases h : x ≥ a
  · have h' : inB x a b = decide (x ≤ b) := by simp [inB, h]
    simp only [bnd, guard_tt, guard_ff, guard_tf, guard_ft, pick_t, pick_f, if_t, if_f, add_i, sub_i, lss_i, leq_i, gtr_i, geq_i, eql_i, neq_i, min_i, max_i, conv_i, len_sl, len_nil, not_b, cells_agg, new_s, fld_p, nil_p, decide_eq_true h, h']
  · have h' : inB x a b = false := by simp [inB, h]
    simp only [bnd, guard_tt, guard_ff, guard_tf, guard_ft, pick_t, pick_f, if_t, if_f, add_i, sub_i, lss_i, leq_i, gtr_i, geq_i, eql_i, neq_i, min_i, max_i, conv_i, len_sl, len_nil, not_b, cells_agg, new_s, fld_p, nil_p, decide_eq_false h, h']
theorem long_run (k : Nat) (x a b : Int) (t : Store) : rn (k + 1) 40 [.int .i64 x, .int .i64 a, .int .i64 b] t = some (.bool (inB x a b), t) := by
  rw [F40.eq]
  unfold F40.f F40.p0
  by_cases h : x ≥ a
  · have h' : inB x a b = decide (x ≤ b) := by simp [inB, h]
    simp only [bnd, guard_tt, guard_ff, guard_tf, guard_ft, pick_t, pick_f, if_t, if_f, add_i, sub_i, lss_i, leq_i, gtr_i, geq_i, eql_i, neq_i, min_i, max_i, conv_i, len_sl, len_nil, not_b, cells_agg, new_s, fld_p, nil_p, decide_eq_true h, h']
  · have h' : inB x a b = false := by simp [inB, h]
    simp only [bnd, guard_tt, guard_ff, guard_tf, guard_ft, pick_t, pick_f, if_t, if_f, add_i, sub_i, lss_i, leq_i, gtr_i, geq_i, eql_i, neq_i, min_i, max_i, conv_i, len_sl, len_nil, not_b, cells_agg, new_s, fld_p, nil_p, decide_eq_false h, h']

/-- The loads of a row that holds a config. -/
theorem cfg_ld {t : Store} {x : Nat} {c : Cfg} (g : t.get x = .cells c.cells false) {j : Nat} {v : AV} (hv : c.cells[j]? = some v) {α : Type} (f : AV → Option α) : aLoad1 (.ptr x (0 + j) 16) t f = f v := rld g rfl hv f

theorem refMay_run (k : Nat) (c : Cfg) (s : Store) : rn (k + 2) 17 [.agg c.cells] s = some (.bool c.mayB, s.push (.cells c.cells false)) := by
  rw [F17.eq]
  unfold F17.f F17.p0
  have g : (s.push (.cells c.cells false)).get s.next = .cells c.cells false := by rw [get_push, if_pos rfl]
  simp only [cells_agg, new_s]
  rw [show c.cells.length = 16 from rfl]
  generalize s.push (.cells c.cells false) = t at g ⊢
  have l := fun {j : Nat} {v : AV} (hv : c.cells[j]? = some v) {α : Type} (f : AV → Option α) => cfg_ld g hv f
  have hm : bagLeast c = IntKind.i64.wrap (IntKind.i64.wrap (c.window + c.pulls) + 8) := rfl
  simp only [fld_p, l (j := 0) rfl, l (j := 1) rfl, l (j := 2) rfl, l (j := 3) rfl, l (j := 4) rfl, l (j := 5) rfl, l (j := 6) rfl, l (j := 7) rfl, l (j := 8) rfl, l (j := 9) rfl, l (j := 10) rfl, l (j := 11) rfl, l (j := 12) rfl, l (j := 13) rfl, l (j := 14) rfl, l (j := 15) rfl, in_run, bnd, guard_tt, guard_ff, guard_tf, guard_ft, pick_t, pick_f, if_t, if_f, add_i, sub_i, lss_i, leq_i, gtr_i, geq_i, eql_i, neq_i, min_i, max_i, conv_i, len_sl, len_nil, not_b, cells_agg, new_s, fld_p, nil_p]
  unfold Cfg.mayB
  have l0 := fun {α : Type} (f : AV → Option α) => l (j := 0) rfl f
  cases h0 : inB c.n 1 64
  · simp only [Bool.not_true, Bool.not_false, guard_skip, Bool.false_and, bnd, guard_tt, guard_ff, guard_tf, guard_ft, pick_t, pick_f, if_t, if_f, add_i, sub_i, lss_i, leq_i, gtr_i, geq_i, eql_i, neq_i, min_i, max_i, conv_i, len_sl, len_nil, not_b, cells_agg, new_s, fld_p, nil_p]
  cases h1 : inB c.chunk 1 65536
  · simp only [in_run, h1, Bool.not_true, Bool.not_false, guard_skip, Bool.false_and, Bool.true_and, bnd, guard_tt, guard_ff, guard_tf, guard_ft, pick_t, pick_f, if_t, if_f, add_i, sub_i, lss_i, leq_i, gtr_i, geq_i, eql_i, neq_i, min_i, max_i, conv_i, len_sl, len_nil, not_b, cells_agg, new_s, fld_p, nil_p, l (j := 1) rfl]
  cases h2 : inB c.payload 0 1048576
  · simp only [in_run, h1, h2, Bool.not_true, Bool.not_false, guard_skip, Bool.false_and, Bool.true_and, bnd, guard_tt, guard_ff, guard_tf, guard_ft, pick_t, pick_f, if_t, if_f, add_i, sub_i, lss_i, leq_i, gtr_i, geq_i, eql_i, neq_i, min_i, max_i, conv_i, len_sl, len_nil, not_b, cells_agg, new_s, fld_p, nil_p, l (j := 1) rfl, l (j := 2) rfl]
  cases h3 : inB c.credit 1 64
  · simp only [in_run, h1, h2, h3, Bool.not_true, Bool.not_false, guard_skip, Bool.false_and, Bool.true_and, bnd, guard_tt, guard_ff, guard_tf, guard_ft, pick_t, pick_f, if_t, if_f, add_i, sub_i, lss_i, leq_i, gtr_i, geq_i, eql_i, neq_i, min_i, max_i, conv_i, len_sl, len_nil, not_b, cells_agg, new_s, fld_p, nil_p, l (j := 1) rfl, l (j := 2) rfl, l (j := 3) rfl]
  cases h4 : inB c.window 1 64
  · simp only [in_run, h1, h2, h3, h4, Bool.not_true, Bool.not_false, guard_skip, Bool.false_and, Bool.true_and, bnd, guard_tt, guard_ff, guard_tf, guard_ft, pick_t, pick_f, if_t, if_f, add_i, sub_i, lss_i, leq_i, gtr_i, geq_i, eql_i, neq_i, min_i, max_i, conv_i, len_sl, len_nil, not_b, cells_agg, new_s, fld_p, nil_p, l (j := 1) rfl, l (j := 2) rfl, l (j := 3) rfl, l (j := 4) rfl]
  cases h5 : inB c.queue 1 4096
  · simp only [in_run, h1, h2, h3, h4, h5, Bool.not_true, Bool.not_false, guard_skip, Bool.false_and, Bool.true_and, bnd, guard_tt, guard_ff, guard_tf, guard_ft, pick_t, pick_f, if_t, if_f, add_i, sub_i, lss_i, leq_i, gtr_i, geq_i, eql_i, neq_i, min_i, max_i, conv_i, len_sl, len_nil, not_b, cells_agg, new_s, fld_p, nil_p, l (j := 1) rfl, l (j := 2) rfl, l (j := 3) rfl, l (j := 4) rfl, l (j := 5) rfl]
  simp only [in_run, h1, h2, h3, h4, h5, Bool.not_true, Bool.not_false, guard_skip, Bool.false_and, Bool.true_and, bnd, guard_tt, guard_ff, guard_tf, guard_ft, pick_t, pick_f, if_t, if_f, add_i, sub_i, lss_i, leq_i, gtr_i, geq_i, eql_i, neq_i, min_i, max_i, conv_i, len_sl, len_nil, not_b, cells_agg, new_s, fld_p, nil_p, l (j := 1) rfl, l (j := 2) rfl, l (j := 3) rfl, l (j := 4) rfl, l (j := 5) rfl, l (j := 6) rfl]
  cases h6 : inB c.batch 1 4096
  · simp only [Bool.not_true, Bool.not_false, guard_skip, Bool.false_and, Bool.true_and, bnd, guard_tt, guard_ff, guard_tf, guard_ft, pick_t, pick_f, if_t, if_f, add_i, sub_i, lss_i, leq_i, gtr_i, geq_i, eql_i, neq_i, min_i, max_i, conv_i, len_sl, len_nil, not_b, cells_agg, new_s, fld_p, nil_p]
  cases h7 : inB c.ahead 1 8
  · simp only [in_run, h7, Bool.not_true, Bool.not_false, guard_skip, Bool.false_and, Bool.true_and, bnd, guard_tt, guard_ff, guard_tf, guard_ft, pick_t, pick_f, if_t, if_f, add_i, sub_i, lss_i, leq_i, gtr_i, geq_i, eql_i, neq_i, min_i, max_i, conv_i, len_sl, len_nil, not_b, cells_agg, new_s, fld_p, nil_p, l (j := 7) rfl]
  cases h8 : inB c.pulls 1 64
  · simp only [in_run, h7, h8, Bool.not_true, Bool.not_false, guard_skip, Bool.false_and, Bool.true_and, bnd, guard_tt, guard_ff, guard_tf, guard_ft, pick_t, pick_f, if_t, if_f, add_i, sub_i, lss_i, leq_i, gtr_i, geq_i, eql_i, neq_i, min_i, max_i, conv_i, len_sl, len_nil, not_b, cells_agg, new_s, fld_p, nil_p, l (j := 7) rfl, l (j := 8) rfl]
  cases h9 : inB c.gather c.payload 1073741824
  · simp only [in_run, h7, h8, h9, Bool.not_true, Bool.not_false, guard_skip, Bool.false_and, Bool.true_and, bnd, guard_tt, guard_ff, guard_tf, guard_ft, pick_t, pick_f, if_t, if_f, add_i, sub_i, lss_i, leq_i, gtr_i, geq_i, eql_i, neq_i, min_i, max_i, conv_i, len_sl, len_nil, not_b, cells_agg, new_s, fld_p, nil_p, l (j := 7) rfl, l (j := 8) rfl, l (j := 9) rfl, l (j := 2) rfl]
  cases h10 : inB c.bag (bagLeast c) 4096
  · simp only [in_run, h7, h8, h9, h10, ← hm, Bool.not_true, Bool.not_false, guard_skip, Bool.false_and, Bool.true_and, bnd, guard_tt, guard_ff, guard_tf, guard_ft, pick_t, pick_f, if_t, if_f, add_i, sub_i, lss_i, leq_i, gtr_i, geq_i, eql_i, neq_i, min_i, max_i, conv_i, len_sl, len_nil, not_b, cells_agg, new_s, fld_p, nil_p, l (j := 7) rfl, l (j := 8) rfl, l (j := 9) rfl, l (j := 2) rfl, l (j := 10) rfl, l (j := 4) rfl]
  simp only [in_run, h7, h8, h9, h10, ← hm, Bool.not_true, Bool.not_false, guard_skip, Bool.false_and, Bool.true_and, bnd, guard_tt, guard_ff, guard_tf, guard_ft, pick_t, pick_f, if_t, if_f, add_i, sub_i, lss_i, leq_i, gtr_i, geq_i, eql_i, neq_i, min_i, max_i, conv_i, len_sl, len_nil, not_b, cells_agg, new_s, fld_p, nil_p, l (j := 7) rfl, l (j := 8) rfl, l (j := 9) rfl, l (j := 2) rfl, l (j := 10) rfl, l (j := 4) rfl, l (j := 11) rfl, long_run]
  cases h11 : inB c.beat 1 1048576
  · simp only [Bool.not_true, Bool.not_false, guard_skip, Bool.false_and, Bool.true_and, bnd, guard_tt, guard_ff, guard_tf, guard_ft, pick_t, pick_f, if_t, if_f, add_i, sub_i, lss_i, leq_i, gtr_i, geq_i, eql_i, neq_i, min_i, max_i, conv_i, len_sl, len_nil, not_b, cells_agg, new_s, fld_p, nil_p]
  cases h12 : inB c.again 1 1048576
  · simp only [long_run, h12, Bool.not_true, Bool.not_false, guard_skip, Bool.false_and, Bool.true_and, bnd, guard_tt, guard_ff, guard_tf, guard_ft, pick_t, pick_f, if_t, if_f, add_i, sub_i, lss_i, leq_i, gtr_i, geq_i, eql_i, neq_i, min_i, max_i, conv_i, len_sl, len_nil, not_b, cells_agg, new_s, fld_p, nil_p, l (j := 12) rfl]
  cases h13 : inB c.wait 1 1099511627776
  · simp only [long_run, h12, h13, Bool.not_true, Bool.not_false, guard_skip, Bool.false_and, Bool.true_and, bnd, guard_tt, guard_ff, guard_tf, guard_ft, pick_t, pick_f, if_t, if_f, add_i, sub_i, lss_i, leq_i, gtr_i, geq_i, eql_i, neq_i, min_i, max_i, conv_i, len_sl, len_nil, not_b, cells_agg, new_s, fld_p, nil_p, l (j := 12) rfl, l (j := 13) rfl]
  simp only [long_run, h12, h13, Bool.not_true, Bool.not_false, guard_skip, Bool.false_and, Bool.true_and, bnd, guard_tt, guard_ff, guard_tf, guard_ft, pick_t, pick_f, if_t, if_f, add_i, sub_i, lss_i, leq_i, gtr_i, geq_i, eql_i, neq_i, min_i, max_i, conv_i, len_sl, len_nil, not_b, cells_agg, new_s, fld_p, nil_p, l (j := 12) rfl, l (j := 13) rfl, l (j := 14) rfl]
  cases h14 : inB c.more 0 1099511627776
  · simp only [Bool.not_true, Bool.not_false, guard_skip, Bool.false_and, Bool.true_and, bnd, guard_tt, guard_ff, guard_tf, guard_ft, pick_t, pick_f, if_t, if_f, add_i, sub_i, lss_i, leq_i, gtr_i, geq_i, eql_i, neq_i, min_i, max_i, conv_i, len_sl, len_nil, not_b, cells_agg, new_s, fld_p, nil_p]
  simp only [long_run, Bool.not_true, Bool.not_false, guard_skip, Bool.false_and, Bool.true_and, bnd, guard_tt, guard_ff, guard_tf, guard_ft, pick_t, pick_f, if_t, if_f, add_i, sub_i, lss_i, leq_i, gtr_i, geq_i, eql_i, neq_i, min_i, max_i, conv_i, len_sl, len_nil, not_b, cells_agg, new_s, fld_p, nil_p, l (j := 13) rfl, l (j := 15) rfl]

/-! ### the code's -/
theorem id_run (k : Nat) (x : AV) (t : Store) : rn (k + 1) 60 [x] t = some (x, t) := by
  rw [F60.eq]
  rfl
theorem call_id (k : Nat) (x : AV) (t : Store) {α : Type} (f : AV → Store → Option α) : aCall (rn (k + 1)) (.func 60 [] []) [x] t f = f x t := by
  simp only [aCall, List.nil_append, List.append_nil, id_run, bnd]
theorem within_loop (k : Nat) {t : Store} {v : AV} {xs : List Int} (h : IsV t v .i64 xs) (hb : xs.length ≤ 4611686018427387904) (a b : Int) : ∀ (n i : Nat), i ≤ xs.length → xs.length - i < n → F61.l0 k n (.int .i64 a) (.int .i64 b) v (.int .i64 xs.length) (.int .i64 i) t = some (.bool ((xs.drop i).all fun x => inB x a b), t)
  | 0, i, hi, hn => by omega
  | n + 1, i, hi, hn => by
    have hs : F61.l0 k (n + 1) = fun x0 x1 x9 x10 x11 s => F61.p4 k (F61.l0 k n) x0 x1 x9 x10 x11 s := rfl
    rw [hs]
    clear hs
    simp only
    unfold F61.p4 F61.p3
    rw [lss_i]
    by_cases h1 : i < xs.length
    · have hz : (i : Int) < (xs.length : Int) := by omega
      rw [decide_eq_true hz, if_t]
      unfold F61.p2 F61.p1
      obtain ⟨p, hp, hl⟩ := atV h (show (0 : Int) ≤ i by omega) hz
      have hx : xs.getD (i : Int).toNat 0 = xs[i] := by rw [Int.toNat_natCast, List.getD_eq_getElem?_getD, List.getElem?_eq_getElem h1]; rfl
      have hw1 : IntKind.i64.wrap ((i : Int) + 1) = ((i + 1 : Nat) : Int) := by rw [w_i64 (by omega) (by omega)]; omega
      rw [hp, hl, hx, List.drop_eq_getElem_cons h1, List.all_cons]
      have ih := within_loop k h hb a b n (i + 1) (by omega) (by omega)
      by_cases c1 : xs[i] < a
      · have : inB xs[i] a b = false := by simp [inB]; omega
        simp only [bnd, guard_tt, guard_ff, guard_tf, guard_ft, pick_t, pick_f, if_t, if_f, add_i, sub_i, lss_i, leq_i, gtr_i, geq_i, eql_i, neq_i, min_i, max_i, conv_i, len_sl, len_nil, not_b, cells_agg, new_s, fld_p, nil_p, decide_eq_true c1, this, guard_same, guard_skip, Bool.false_and]
      · by_cases c2 : xs[i] > b
        · have : inB xs[i] a b = false := by simp [inB]; omega
          simp only [bnd, guard_tt, guard_ff, guard_tf, guard_ft, pick_t, pick_f, if_t, if_f, add_i, sub_i, lss_i, leq_i, gtr_i, geq_i, eql_i, neq_i, min_i, max_i, conv_i, len_sl, len_nil, not_b, cells_agg, new_s, fld_p, nil_p, decide_eq_false c1, decide_eq_true c2, this, Bool.false_and]
        · have : inB xs[i] a b = true := by simp [inB]; omega
          simp only [bnd, guard_tt, guard_ff, guard_tf, guard_ft, pick_t, pick_f, if_t, if_f, add_i, sub_i, lss_i, leq_i, gtr_i, geq_i, eql_i, neq_i, min_i, max_i, conv_i, len_sl, len_nil, not_b, cells_agg, new_s, fld_p, nil_p, decide_eq_false c1, decide_eq_false c2, this, Bool.true_and, hw1, ih]
    · have hz : ¬ (i : Int) < (xs.length : Int) := by omega
      rw [decide_eq_false hz, if_f]
      unfold F61.p0
      rw [List.drop_eq_nil_of_le (by omega)]
      rfl
theorem within_run {k : Nat} {t : Store} {v : AV} {xs : List Int} (h : IsV t v .i64 xs) (hb : xs.length ≤ 4611686018427387904) (hk : xs.length < k) (a b : Int) : rn (k + 1) 61 [.int .i64 a, .int .i64 b, v] t = some (.bool (xs.all fun x => inB x a b), t) := by
  rw [F61.eq]
  unfold F61.f F61.p6 F61.p5
  rw [lenV h]
  exact within_loop k h hb a b k 0 (by omega) (by omega)
theorem within_1 (k : Nat) (t : Store) (a b x : Int) : rn (k + 3) 61 [.int .i64 a, .int .i64 b, .sl t.next 0 1 1 1] (t.push (.cells [.int .i64 x] false)) = some (.bool (inB x a b), t.push (.cells [.int .i64 x] false)) := by
  have h : IsV (t.push (.cells [.int .i64 x] false)) (.sl t.next 0 1 1 1) .i64 [x] := .inr ⟨t.next, 0, [x], false, rfl, Nat.lt_succ_self _, by rw [get_push, if_pos rfl]; rfl, by simp, by simp⟩
  have := within_run (k := k + 2) h (by simp) (by simp) a b
  simpa using this
theorem within_2 (k : Nat) (t : Store) (a b x y : Int) : rn (k + 4) 61 [.int .i64 a, .int .i64 b, .sl t.next 0 2 1 2] (t.push (.cells [.int .i64 x, .int .i64 y] false)) = some (.bool (inB x a b && inB y a b), t.push (.cells [.int .i64 x, .int .i64 y] false)) := by
  have h : IsV (t.push (.cells [.int .i64 x, .int .i64 y] false)) (.sl t.next 0 2 1 2) .i64 [x, y] := .inr ⟨t.next, 0, [x, y], false, rfl, Nat.lt_succ_self _, by rw [get_push, if_pos rfl]; rfl, by simp, by simp⟩
  have := within_run (k := k + 3) h (by simp) (by simp) a b
  simpa using this
theorem build_1i (x : Int) {α : Type} (f : List AV → Option α) : aBuild [(0, 1, .int .i64 x)] [.int .i64 0] f = f [.int .i64 x] := rfl
theorem build_2i (x y : Int) {α : Type} (f : List AV → Option α) : aBuild [(0, 1, .int .i64 x), (1, 1, .int .i64 y)] [.int .i64 0, .int .i64 0] f = f [.int .i64 x, .int .i64 y] := rfl

set_option maxHeartbeats 8000000 in
theorem may_run (k : Nat) (c : Cfg) (s : Store) : ∃ s', rn (k + 5) 35 [.agg c.cells] s = some (.bool c.mayB, s') ∧ Ext s s' := by
  rw [F35.eq]
  unfold F35.f F35.p16 F35.p15
  have g : (s.push (.cells c.cells false)).get s.next = .cells c.cells false := by rw [get_push, if_pos rfl]
  have hx : s.next < (s.push (.cells c.cells false)).next := Nat.lt_succ_self _
  have e0 := Ext.push s (.cells c.cells false)
  simp only [cells_agg, new_s]
  rw [show c.cells.length = 16 from rfl]
  suffices hs : ∃ s', F35.p14 (k + 4) (.ptr s.next 0 16) (.func 60 [] []) (s.push (.cells c.cells false)) = some (.bool c.mayB, s') ∧ Ext (s.push (.cells c.cells false)) s' by
    obtain ⟨s', h1, h2⟩ := hs
    exact ⟨s', h1, e0.trans h2⟩
  generalize s.push (.cells c.cells false) = s1 at g hx ⊢
  generalize s.next = x at g hx ⊢
  have l := fun {j : Nat} {v : AV} (hv : c.cells[j]? = some v) (t : Store) (e : Ext s1 t) {α : Type} (f : AV → Option α) => cfg_ld ((e.get x hx).trans g) hv f
  have er := Ext.refl s1
  have ep : ∀ t o, Ext s1 t → Ext s1 (t.push o) := fun t o e => ext_push' e o
  have hm : IntKind.i64.wrap (IntKind.i64.wrap (c.window + c.pulls) + 8) = bagLeast c := rfl
  unfold Cfg.mayB
  unfold F35.p14
  have l0 := fun t e {α : Type} f => l (j := 0) rfl t e (α := α) f
  have l1 := fun t e {α : Type} f => l (j := 1) rfl t e (α := α) f
  have l2 := fun t e {α : Type} f => l (j := 2) rfl t e (α := α) f
  have l3 := fun t e {α : Type} f => l (j := 3) rfl t e (α := α) f
  have l4 := fun t e {α : Type} f => l (j := 4) rfl t e (α := α) f
  have l5 := fun t e {α : Type} f => l (j := 5) rfl t e (α := α) f
  have l6 := fun t e {α : Type} f => l (j := 6) rfl t e (α := α) f
  have l7 := fun t e {α : Type} f => l (j := 7) rfl t e (α := α) f
  have l8 := fun t e {α : Type} f => l (j := 8) rfl t e (α := α) f
  have l9 := fun t e {α : Type} f => l (j := 9) rfl t e (α := α) f
  have l10 := fun t e {α : Type} f => l (j := 10) rfl t e (α := α) f
  have l11 := fun t e {α : Type} f => l (j := 11) rfl t e (α := α) f
  have l12 := fun t e {α : Type} f => l (j := 12) rfl t e (α := α) f
  have l13 := fun t e {α : Type} f => l (j := 13) rfl t e (α := α) f
  have l14 := fun t e {α : Type} f => l (j := 14) rfl t e (α := α) f
  have l15 := fun t e {α : Type} f => l (j := 15) rfl t e (α := α) f
  clear l
  cases h0 : inB c.n 1 64
  · simp (maxDischargeDepth := 40) only [fld_p, l0, l1, l2, l3, l4, l5, l6, l7, l8, l9, l10, l11, l12, l13, l14, l15, er, ep, call_id, build_1i, build_2i, within_1, within_2, aSame_self, hm, bnd, guard_tt, guard_ff, guard_tf, guard_ft, pick_t, pick_f, if_t, if_f, add_i, sub_i, lss_i, leq_i, gtr_i, geq_i, eql_i, neq_i, min_i, max_i, conv_i, len_sl, len_nil, not_b, cells_agg, new_s, fld_p, nil_p, Bool.not_true, Bool.not_false, Bool.false_and, Bool.true_and, Bool.and_true, Bool.and_false, guard_skip, F35.p0, F35.p1, F35.p2, F35.p3, F35.p4, F35.p5, F35.p6, F35.p7, F35.p8, F35.p9, F35.p10, F35.p11, F35.p12, F35.p13, h0]
    exact ⟨_, rfl, by simp (maxDischargeDepth := 40) only [er, ep]⟩
  cases h1 : inB c.chunk 1 65536
  · simp (maxDischargeDepth := 40) only [fld_p, l0, l1, l2, l3, l4, l5, l6, l7, l8, l9, l10, l11, l12, l13, l14, l15, er, ep, call_id, build_1i, build_2i, within_1, within_2, aSame_self, hm, bnd, guard_tt, guard_ff, guard_tf, guard_ft, pick_t, pick_f, if_t, if_f, add_i, sub_i, lss_i, leq_i, gtr_i, geq_i, eql_i, neq_i, min_i, max_i, conv_i, len_sl, len_nil, not_b, cells_agg, new_s, fld_p, nil_p, Bool.not_true, Bool.not_false, Bool.false_and, Bool.true_and, Bool.and_true, Bool.and_false, guard_skip, F35.p0, F35.p1, F35.p2, F35.p3, F35.p4, F35.p5, F35.p6, F35.p7, F35.p8, F35.p9, F35.p10, F35.p11, F35.p12, F35.p13, h0, h1]
    exact ⟨_, rfl, by simp (maxDischargeDepth := 40) only [er, ep]⟩
  cases h2 : inB c.payload 0 1048576
  · simp (maxDischargeDepth := 40) only [fld_p, l0, l1, l2, l3, l4, l5, l6, l7, l8, l9, l10, l11, l12, l13, l14, l15, er, ep, call_id, build_1i, build_2i, within_1, within_2, aSame_self, hm, bnd, guard_tt, guard_ff, guard_tf, guard_ft, pick_t, pick_f, if_t, if_f, add_i, sub_i, lss_i, leq_i, gtr_i, geq_i, eql_i, neq_i, min_i, max_i, conv_i, len_sl, len_nil, not_b, cells_agg, new_s, fld_p, nil_p, Bool.not_true, Bool.not_false, Bool.false_and, Bool.true_and, Bool.and_true, Bool.and_false, guard_skip, F35.p0, F35.p1, F35.p2, F35.p3, F35.p4, F35.p5, F35.p6, F35.p7, F35.p8, F35.p9, F35.p10, F35.p11, F35.p12, F35.p13, h0, h1, h2]
    exact ⟨_, rfl, by simp (maxDischargeDepth := 40) only [er, ep]⟩
  cases h3 : inB c.credit 1 64
  · simp (maxDischargeDepth := 40) only [fld_p, l0, l1, l2, l3, l4, l5, l6, l7, l8, l9, l10, l11, l12, l13, l14, l15, er, ep, call_id, build_1i, build_2i, within_1, within_2, aSame_self, hm, bnd, guard_tt, guard_ff, guard_tf, guard_ft, pick_t, pick_f, if_t, if_f, add_i, sub_i, lss_i, leq_i, gtr_i, geq_i, eql_i, neq_i, min_i, max_i, conv_i, len_sl, len_nil, not_b, cells_agg, new_s, fld_p, nil_p, Bool.not_true, Bool.not_false, Bool.false_and, Bool.true_and, Bool.and_true, Bool.and_false, guard_skip, F35.p0, F35.p1, F35.p2, F35.p3, F35.p4, F35.p5, F35.p6, F35.p7, F35.p8, F35.p9, F35.p10, F35.p11, F35.p12, F35.p13, h0, h1, h2, h3]
    exact ⟨_, rfl, by simp (maxDischargeDepth := 40) only [er, ep]⟩
  cases h4 : inB c.window 1 64
  · simp (maxDischargeDepth := 40) only [fld_p, l0, l1, l2, l3, l4, l5, l6, l7, l8, l9, l10, l11, l12, l13, l14, l15, er, ep, call_id, build_1i, build_2i, within_1, within_2, aSame_self, hm, bnd, guard_tt, guard_ff, guard_tf, guard_ft, pick_t, pick_f, if_t, if_f, add_i, sub_i, lss_i, leq_i, gtr_i, geq_i, eql_i, neq_i, min_i, max_i, conv_i, len_sl, len_nil, not_b, cells_agg, new_s, fld_p, nil_p, Bool.not_true, Bool.not_false, Bool.false_and, Bool.true_and, Bool.and_true, Bool.and_false, guard_skip, F35.p0, F35.p1, F35.p2, F35.p3, F35.p4, F35.p5, F35.p6, F35.p7, F35.p8, F35.p9, F35.p10, F35.p11, F35.p12, F35.p13, h0, h1, h2, h3, h4]
    exact ⟨_, rfl, by simp (maxDischargeDepth := 40) only [er, ep]⟩
  cases h5 : inB c.queue 1 4096
  · simp (maxDischargeDepth := 40) only [fld_p, l0, l1, l2, l3, l4, l5, l6, l7, l8, l9, l10, l11, l12, l13, l14, l15, er, ep, call_id, build_1i, build_2i, within_1, within_2, aSame_self, hm, bnd, guard_tt, guard_ff, guard_tf, guard_ft, pick_t, pick_f, if_t, if_f, add_i, sub_i, lss_i, leq_i, gtr_i, geq_i, eql_i, neq_i, min_i, max_i, conv_i, len_sl, len_nil, not_b, cells_agg, new_s, fld_p, nil_p, Bool.not_true, Bool.not_false, Bool.false_and, Bool.true_and, Bool.and_true, Bool.and_false, guard_skip, F35.p0, F35.p1, F35.p2, F35.p3, F35.p4, F35.p5, F35.p6, F35.p7, F35.p8, F35.p9, F35.p10, F35.p11, F35.p12, F35.p13, h0, h1, h2, h3, h4, h5]
    exact ⟨_, rfl, by simp (maxDischargeDepth := 40) only [er, ep]⟩
  cases h6 : inB c.batch 1 4096
  · simp (maxDischargeDepth := 40) only [fld_p, l0, l1, l2, l3, l4, l5, l6, l7, l8, l9, l10, l11, l12, l13, l14, l15, er, ep, call_id, build_1i, build_2i, within_1, within_2, aSame_self, hm, bnd, guard_tt, guard_ff, guard_tf, guard_ft, pick_t, pick_f, if_t, if_f, add_i, sub_i, lss_i, leq_i, gtr_i, geq_i, eql_i, neq_i, min_i, max_i, conv_i, len_sl, len_nil, not_b, cells_agg, new_s, fld_p, nil_p, Bool.not_true, Bool.not_false, Bool.false_and, Bool.true_and, Bool.and_true, Bool.and_false, guard_skip, F35.p0, F35.p1, F35.p2, F35.p3, F35.p4, F35.p5, F35.p6, F35.p7, F35.p8, F35.p9, F35.p10, F35.p11, F35.p12, F35.p13, h0, h1, h2, h3, h4, h5, h6]
    exact ⟨_, rfl, by simp (maxDischargeDepth := 40) only [er, ep]⟩
  cases h7 : inB c.ahead 1 8
  · simp (maxDischargeDepth := 40) only [fld_p, l0, l1, l2, l3, l4, l5, l6, l7, l8, l9, l10, l11, l12, l13, l14, l15, er, ep, call_id, build_1i, build_2i, within_1, within_2, aSame_self, hm, bnd, guard_tt, guard_ff, guard_tf, guard_ft, pick_t, pick_f, if_t, if_f, add_i, sub_i, lss_i, leq_i, gtr_i, geq_i, eql_i, neq_i, min_i, max_i, conv_i, len_sl, len_nil, not_b, cells_agg, new_s, fld_p, nil_p, Bool.not_true, Bool.not_false, Bool.false_and, Bool.true_and, Bool.and_true, Bool.and_false, guard_skip, F35.p0, F35.p1, F35.p2, F35.p3, F35.p4, F35.p5, F35.p6, F35.p7, F35.p8, F35.p9, F35.p10, F35.p11, F35.p12, F35.p13, h0, h1, h2, h3, h4, h5, h6, h7]
    exact ⟨_, rfl, by simp (maxDischargeDepth := 40) only [er, ep]⟩
  cases h8 : inB c.pulls 1 64
  · simp (maxDischargeDepth := 40) only [fld_p, l0, l1, l2, l3, l4, l5, l6, l7, l8, l9, l10, l11, l12, l13, l14, l15, er, ep, call_id, build_1i, build_2i, within_1, within_2, aSame_self, hm, bnd, guard_tt, guard_ff, guard_tf, guard_ft, pick_t, pick_f, if_t, if_f, add_i, sub_i, lss_i, leq_i, gtr_i, geq_i, eql_i, neq_i, min_i, max_i, conv_i, len_sl, len_nil, not_b, cells_agg, new_s, fld_p, nil_p, Bool.not_true, Bool.not_false, Bool.false_and, Bool.true_and, Bool.and_true, Bool.and_false, guard_skip, F35.p0, F35.p1, F35.p2, F35.p3, F35.p4, F35.p5, F35.p6, F35.p7, F35.p8, F35.p9, F35.p10, F35.p11, F35.p12, F35.p13, h0, h1, h2, h3, h4, h5, h6, h7, h8]
    exact ⟨_, rfl, by simp (maxDischargeDepth := 40) only [er, ep]⟩
  cases h9 : inB c.gather c.payload 1073741824
  · simp (maxDischargeDepth := 40) only [fld_p, l0, l1, l2, l3, l4, l5, l6, l7, l8, l9, l10, l11, l12, l13, l14, l15, er, ep, call_id, build_1i, build_2i, within_1, within_2, aSame_self, hm, bnd, guard_tt, guard_ff, guard_tf, guard_ft, pick_t, pick_f, if_t, if_f, add_i, sub_i, lss_i, leq_i, gtr_i, geq_i, eql_i, neq_i, min_i, max_i, conv_i, len_sl, len_nil, not_b, cells_agg, new_s, fld_p, nil_p, Bool.not_true, Bool.not_false, Bool.false_and, Bool.true_and, Bool.and_true, Bool.and_false, guard_skip, F35.p0, F35.p1, F35.p2, F35.p3, F35.p4, F35.p5, F35.p6, F35.p7, F35.p8, F35.p9, F35.p10, F35.p11, F35.p12, F35.p13, h0, h1, h2, h3, h4, h5, h6, h7, h8, h9]
    exact ⟨_, rfl, by simp (maxDischargeDepth := 40) only [er, ep]⟩
  cases h10 : inB c.bag (bagLeast c) 4096
  · simp (maxDischargeDepth := 40) only [fld_p, l0, l1, l2, l3, l4, l5, l6, l7, l8, l9, l10, l11, l12, l13, l14, l15, er, ep, call_id, build_1i, build_2i, within_1, within_2, aSame_self, hm, bnd, guard_tt, guard_ff, guard_tf, guard_ft, pick_t, pick_f, if_t, if_f, add_i, sub_i, lss_i, leq_i, gtr_i, geq_i, eql_i, neq_i, min_i, max_i, conv_i, len_sl, len_nil, not_b, cells_agg, new_s, fld_p, nil_p, Bool.not_true, Bool.not_false, Bool.false_and, Bool.true_and, Bool.and_true, Bool.and_false, guard_skip, F35.p0, F35.p1, F35.p2, F35.p3, F35.p4, F35.p5, F35.p6, F35.p7, F35.p8, F35.p9, F35.p10, F35.p11, F35.p12, F35.p13, h0, h1, h2, h3, h4, h5, h6, h7, h8, h9, h10]
    exact ⟨_, rfl, by simp (maxDischargeDepth := 40) only [er, ep]⟩
  cases h11 : inB c.beat 1 1048576
  · simp (maxDischargeDepth := 40) only [fld_p, l0, l1, l2, l3, l4, l5, l6, l7, l8, l9, l10, l11, l12, l13, l14, l15, er, ep, call_id, build_1i, build_2i, within_1, within_2, aSame_self, hm, bnd, guard_tt, guard_ff, guard_tf, guard_ft, pick_t, pick_f, if_t, if_f, add_i, sub_i, lss_i, leq_i, gtr_i, geq_i, eql_i, neq_i, min_i, max_i, conv_i, len_sl, len_nil, not_b, cells_agg, new_s, fld_p, nil_p, Bool.not_true, Bool.not_false, Bool.false_and, Bool.true_and, Bool.and_true, Bool.and_false, guard_skip, F35.p0, F35.p1, F35.p2, F35.p3, F35.p4, F35.p5, F35.p6, F35.p7, F35.p8, F35.p9, F35.p10, F35.p11, F35.p12, F35.p13, h0, h1, h2, h3, h4, h5, h6, h7, h8, h9, h10, h11]
    exact ⟨_, rfl, by simp (maxDischargeDepth := 40) only [er, ep]⟩
  cases h12 : inB c.again 1 1048576
  · simp (maxDischargeDepth := 40) only [fld_p, l0, l1, l2, l3, l4, l5, l6, l7, l8, l9, l10, l11, l12, l13, l14, l15, er, ep, call_id, build_1i, build_2i, within_1, within_2, aSame_self, hm, bnd, guard_tt, guard_ff, guard_tf, guard_ft, pick_t, pick_f, if_t, if_f, add_i, sub_i, lss_i, leq_i, gtr_i, geq_i, eql_i, neq_i, min_i, max_i, conv_i, len_sl, len_nil, not_b, cells_agg, new_s, fld_p, nil_p, Bool.not_true, Bool.not_false, Bool.false_and, Bool.true_and, Bool.and_true, Bool.and_false, guard_skip, F35.p0, F35.p1, F35.p2, F35.p3, F35.p4, F35.p5, F35.p6, F35.p7, F35.p8, F35.p9, F35.p10, F35.p11, F35.p12, F35.p13, h0, h1, h2, h3, h4, h5, h6, h7, h8, h9, h10, h11, h12]
    exact ⟨_, rfl, by simp (maxDischargeDepth := 40) only [er, ep]⟩
  cases h13 : inB c.wait 1 1099511627776
  · simp (maxDischargeDepth := 40) only [fld_p, l0, l1, l2, l3, l4, l5, l6, l7, l8, l9, l10, l11, l12, l13, l14, l15, er, ep, call_id, build_1i, build_2i, within_1, within_2, aSame_self, hm, bnd, guard_tt, guard_ff, guard_tf, guard_ft, pick_t, pick_f, if_t, if_f, add_i, sub_i, lss_i, leq_i, gtr_i, geq_i, eql_i, neq_i, min_i, max_i, conv_i, len_sl, len_nil, not_b, cells_agg, new_s, fld_p, nil_p, Bool.not_true, Bool.not_false, Bool.false_and, Bool.true_and, Bool.and_true, Bool.and_false, guard_skip, F35.p0, F35.p1, F35.p2, F35.p3, F35.p4, F35.p5, F35.p6, F35.p7, F35.p8, F35.p9, F35.p10, F35.p11, F35.p12, F35.p13, h0, h1, h2, h3, h4, h5, h6, h7, h8, h9, h10, h11, h12, h13]
    exact ⟨_, rfl, by simp (maxDischargeDepth := 40) only [er, ep]⟩
  cases h14 : inB c.more 0 1099511627776
  · simp (maxDischargeDepth := 40) only [fld_p, l0, l1, l2, l3, l4, l5, l6, l7, l8, l9, l10, l11, l12, l13, l14, l15, er, ep, call_id, build_1i, build_2i, within_1, within_2, aSame_self, hm, bnd, guard_tt, guard_ff, guard_tf, guard_ft, pick_t, pick_f, if_t, if_f, add_i, sub_i, lss_i, leq_i, gtr_i, geq_i, eql_i, neq_i, min_i, max_i, conv_i, len_sl, len_nil, not_b, cells_agg, new_s, fld_p, nil_p, Bool.not_true, Bool.not_false, Bool.false_and, Bool.true_and, Bool.and_true, Bool.and_false, guard_skip, F35.p0, F35.p1, F35.p2, F35.p3, F35.p4, F35.p5, F35.p6, F35.p7, F35.p8, F35.p9, F35.p10, F35.p11, F35.p12, F35.p13, h0, h1, h2, h3, h4, h5, h6, h7, h8, h9, h10, h11, h12, h13, h14]
    exact ⟨_, rfl, by simp (maxDischargeDepth := 40) only [er, ep]⟩
  simp (maxDischargeDepth := 40) only [fld_p, l0, l1, l2, l3, l4, l5, l6, l7, l8, l9, l10, l11, l12, l13, l14, l15, er, ep, call_id, build_1i, build_2i, within_1, within_2, aSame_self, hm, bnd, guard_tt, guard_ff, guard_tf, guard_ft, pick_t, pick_f, if_t, if_f, add_i, sub_i, lss_i, leq_i, gtr_i, geq_i, eql_i, neq_i, min_i, max_i, conv_i, len_sl, len_nil, not_b, cells_agg, new_s, fld_p, nil_p, Bool.not_true, Bool.not_false, Bool.false_and, Bool.true_and, Bool.and_true, Bool.and_false, guard_skip, F35.p0, F35.p1, F35.p2, F35.p3, F35.p4, F35.p5, F35.p6, F35.p7, F35.p8, F35.p9, F35.p10, F35.p11, F35.p12, F35.p13, h0, h1, h2, h3, h4, h5, h6, h7, h8, h9, h10, h11, h12, h13, h14]
  exact ⟨_, rfl, by simp (maxDischargeDepth := 40) only [er, ep]⟩
end Go.Proofs.YtjbgdpfkmcibbaaGreatDoor.Sim
