/- Layer 23: the law OrdersKeeps, its run. No condition. -/
import Derived.Test.YtahiipfjhjeofaaB23I
import Derived.Test.YtahiipfjhjeofaaFunKeeps
namespace Go.Proofs.Ytahiipfjhjeofaa.Sim
set_option linter.unusedSimpArgs false
set_option linter.unusedVariables false

theorem IsLL.at' {s0 s : Store} {v : AV} {L : List (List Rn)} (h : IsLL s0 v L) (e : Sub s0 s) {i : Nat} (hi : i < L.length) : ∃ p w, (∀ {α : Type} (k : IntKind) (f : AV → Option α), aIndexSl 1 v (.int k (i : Int)) f = f p) ∧ (∀ {α : Type} (f : AV → Option α), aLoad1 p s f = f w) ∧ IsRuns s0 w L[i] := by
  obtain ⟨vs, h1, h2, h3⟩ := h
  have hi' : i < vs.length := by omega
  rcases h1.sub e with ⟨_, rfl⟩ | ⟨id, ro, rfl, _, h4⟩
  · simp at hi'
  · refine ⟨.ptr id (0 + i * 1) (vs.length * 1), vs[i], fun k f => idxL hi' f, fun f => ?_, h3 i hi' hi⟩
    exact fldL (c := fun v => [v]) (es := 1) one_len h4 hi' (j := 0) (v := vs[i]) rfl f
theorem old_sub {s0 s : Store} {τ : Nat → Nat} {p : Nat} (e : Ext s0 s) (h : ∀ r, r < s0.next → τ r = 0 ∧ r ≠ p) : Sub s0 (vw τ p s) := ⟨e.next, fun l hl _ => by rw [vw_get (h l hl).1 (h l hl).2]; exact e.get l hl⟩
theorem vw_tag {τ : Nat → Nat} {p : Nat} {s : Store} {w : AV} {l : List Rn} (h : IsRuns (vw τ p s) w l) : ∀ a b c e g, w = .sl a b c e g → τ a = 0 := by
  intro a b c e g hw
  rcases h with ⟨q, _⟩ | ⟨x, ro, q1, q2, q3⟩
  · rw [q] at hw; cases hw
  · rw [q1] at hw
    cases hw
    unfold vw at q3
    simp only at q3
    split at q3
    · rename_i hc; exact hc.1
    · cases q3
theorem cell_runs {s : Store} {w : AV} {l : List Rn} (h : IsRuns s w l) {α : Type} (g : List AV → Option α) : aCells w g = g [w] := by
  rcases h with ⟨rfl, _⟩ | ⟨_, _, rfl, _⟩ <;> rfl
theorem one_row (s : Store) {r : Nat} {vs : List AV} (h : s.get r = .cells vs false) (hr : r < s.next) (w : AV) (hl : vs.length ≤ 100000) {α : Type} (f : AV → Store → Option α) :
    aAppend 1 24 (.sl r 0 vs.length 1 vs.length) (.sl s.next 0 1 1 1) (s.push (.cells [w] false)) f = f (.sl r 0 (vs ++ [w]).length 1 (vs ++ [w]).length) ((s.push (.cells [w] false)).set r (.cells (vs ++ [w]) false)) := by
  have h1 : (s.push (.cells [w] false)).get r = .cells vs false := by rw [get_push, if_neg (by omega)]; exact h
  have h2 : (s.push (.cells [w] false)).get s.next = .cells [w] false := by rw [get_push, if_pos rfl]
  have h3 : (vs.length + 1) * 24 ≤ 140737488355328 := by omega
  simp [aAppend, aCellsOf, aRow, h2, aOwn, h1, h3]

structure InvK (s : Store) (τ : Nat → Nat) (id n : Nat) (L : List (List Rn)) (f : Nat) (R : ORows) (r : Nat) (vs : List AV) (x1 : AV) (LL : List (List Rn)) : Prop where
  o : IsO s τ id n L 0 f R
  row : s.get r = .cells vs false
  lt : r < s.next
  tag : τ r = 0
  vl : vs.length = L.length
  els : ∀ (i : Nat) (h : i < vs.length) (h' : i < L.length), IsRuns (vw τ r s) vs[i] L[i]
  args : IsLL (vw τ r s) x1 LL
  small : SmallL L
section
variable {s : Store} {τ : Nat → Nat} {id n f r : Nat} {L LL : List (List Rn)} {R : ORows} {x1 : AV} {vs : List AV}
theorem InvK.ext {s' : Store} (h : InvK s τ id n L f R r vs x1 LL) (e : Ext s s') : InvK s' τ id n L f R r vs x1 LL :=
  ⟨h.o.ext e, (e.get _ h.lt).trans h.row, Nat.lt_of_lt_of_le h.lt e.next, h.tag, h.vl, fun i q q' => (h.els i q q').sub (vw_ext e), h.args.sub (vw_ext e), h.small⟩
theorem InvK.ix (h : InvK s τ id n L f R r vs x1 LL) {i : Nat} (hi : i < L.length) : (∀ {α : Type} (k : IntKind) (g : AV → Option α), aIndexSl 1 (.sl r 0 vs.length 1 vs.length) (.int k (i : Int)) g = g (.ptr r (0 + i) vs.length)) ∧ (∀ {α : Type} (g : AV → Option α), aLoad1 (.ptr r (0 + i) vs.length) s g = g (vs[i]'(by rw [h.vl]; exact hi))) := by
  have hv := h.vl
  refine ⟨fun k g => ?_, fun g => load_1 h.row rfl (by rw [Nat.zero_add]; exact List.getElem?_eq_getElem (by omega))⟩
  have := idxV (id := r) (off := 0) (n := vs.length) (ep := vs.length) (kk := k) (i := (i : Int)) (by omega) (by omega) g
  rw [Int.toNat_natCast] at this
  exact this

/-- Whoever writes into what was told changes nothing else. -/
theorem keeps_write {R0 R1 : AV → AV → AV → AV → AV → Store → Option (AV × Store)} {R0' : AV → AV → AV → AV → Store → Option (AV × Store)} (k : Nat) {x2 x7 x8 x10 x11 : AV} {q m lo : Nat} (hm : m ≤ 1000000) : ∀ (g j : Nat) (s : Store) (cs : List AV), lo ≤ q → lo ≤ s.next → s.get q = .cells cs false → cs.length = m * 3 → (∀ j, j < m → ∃ n, cs[j * 3 + 2]? = some (.int .u64 n)) → j ≤ m → m - j < g →
    ∃ s', unisonlaw23_OrdersKeeps.l0 k R0' R1 g x2 x7 x8 x10 x11 (.sl q 0 m 3 (m * 3)) (.int .i64 (j : Int)) s = unisonlaw23_OrdersKeeps.p2 k R0' R1 x2 x7 x8 x10 x11 s' ∧ ExtLo lo s s'
  | 0, j, _, _, _, _, _, _, _, hj, hg => by omega
  | g + 1, j, s, cs, hq, hlo, hc, hl, hn, hj, hg => by
    have hs : unisonlaw23_OrdersKeeps.l0 k R0' R1 (g + 1) = fun x2 x7 x8 x10 x11 x12 x14 s => unisonlaw23_OrdersKeeps.p5 k R0' R1 (unisonlaw23_OrdersKeeps.l0 k R0' R1 g) x2 x7 x8 x10 x11 x12 x14 s := rfl
    rw [hs]
    clear hs
    simp only
    unfold unisonlaw23_OrdersKeeps.p5
    rw [len_sl, lss_i]
    by_cases hjm : j < m
    · rw [decide_eq_true (by omega), if_t]
      unfold unisonlaw23_OrdersKeeps.p4 unisonlaw23_OrdersKeeps.p3
      obtain ⟨y, hy⟩ := hn j hjm
      have ix : ∀ {α : Type} (g : AV → Option α), aIndexSl 3 (.sl q 0 m 3 (m * 3)) (.int .i64 (j : Int)) g = g (.ptr q (0 + j * 3) (m * 3)) := fun g => by rw [index_sl (by omega) (by omega), Int.toNat_natCast]
      have ld : ∀ {α : Type} (g : AV → Option α), aLoad1 (.ptr q (0 + j * 3 + 2) (m * 3)) s g = g (.int .u64 y) := fun g => load_1 hc hl (by rw [Nat.zero_add]; exact hy)
      have st : ∀ {α : Type} (v : Int) (g : Store → Option α), aStore 1 (.ptr q (0 + j * 3 + 2) (m * 3)) (.int .u64 v) s g = g (s.set q (.cells (cs.set (j * 3 + 2) (.int .u64 v)) false)) := fun v g => by
        have := st_fld (j := j * 3 + 2) (ep := m * 3) (v := .int .u64 v) hc hl (by omega) (fun f => rfl) g
        rw [show 0 + j * 3 + 2 = 0 + (j * 3 + 2) by omega]; exact this
      have hw1 : IntKind.i64.wrap ((j : Int) + 1) = ((j + 1 : Nat) : Int) := by rw [w_i64 (by omega) (by omega)]; omega
      simp only [bnd, guard_tt, guard_ff, guard_tf, guard_ft, pick_t, pick_f, if_t, if_f, add_i, sub_i, lss_i, leq_i, gtr_i, geq_i, eql_i, neq_i, min_i, max_i, conv_i, len_sl, len_nil, not_b, cells_agg, new_s, fld_p, nil_p, ix, ld, st, hw1]
      obtain ⟨s', k1, k2⟩ := keeps_write (R0 := R0) k (x2 := x2) (x7 := x7) (x8 := x8) (x10 := x10) (x11 := x11) hm g (j + 1) (s.set q (.cells (cs.set (j * 3 + 2) (.int .u64 (IntKind.u64.wrap (y + 1)))) false)) (cs.set (j * 3 + 2) (.int .u64 (IntKind.u64.wrap (y + 1)))) hq hlo (by rw [get_set, if_pos rfl]) (by simp [hl]) (fun j' hj' => by
        by_cases e : j' = j
        · subst e
          exact ⟨_, by rw [List.getElem?_set_self (by omega)]⟩
        · obtain ⟨n', hn'⟩ := hn j' hj'
          exact ⟨n', by rw [List.getElem?_set_ne (by omega)]; exact hn'⟩) (by omega) (by omega)
      have e0 : ExtLo lo s (s.set q (.cells (cs.set (j * 3 + 2) (.int .u64 (IntKind.u64.wrap (y + 1)))) false)) := ⟨Nat.le_refl _, fun l hl => by rw [get_set, if_neg (by omega)]⟩
      exact ⟨s', k1, e0.trans k2⟩
    · rw [decide_eq_false (by omega), if_f]
      exact ⟨s, rfl, ExtLo.refl _ _⟩

theorem rc_at (l : List Rn) (j : Nat) (h : j < l.length) : ∃ n, ((l.map rcells).flatten)[j * 3 + 2]? = some (.int .u64 n) := by
  have := flat_get l j h
  have h2 : ((((l.map rcells).flatten.drop (j * 3)).take 3))[2]? = some (.int .u64 l[j].2.2) := by rw [this]; rfl
  rw [List.getElem?_take, if_pos (by omega), List.getElem?_drop] at h2
  exact ⟨_, h2⟩

/-- An instance's batch is told twice. -/
theorem keeps_twice {R0' : AV → AV → AV → AV → Store → Option (AV × Store)} (k : Nat) (hk : 1000000 ≤ k) (hk2 : k ≤ 2000000) {upto i : Nat} (hu : upto < 256) (hL : L.length ≤ 30) (hi : i < L.length) (hf : f = forgetN L 0 upto) : ∀ (g c : Nat) (s : Store), InvK s τ id n L f R r vs x1 LL → c ≤ 2 → 2 - c < g →
    ∃ s', unisonlaw23_OrdersKeeps.l1 (k + 7) R0' g (.int .u8 (upto : Int)) (.ptr id 0 8) (.sl r 0 vs.length 1 vs.length) (.int .i64 (i : Int)) (.int .i64 (c : Int)) s = unisonlaw23_OrdersKeeps.p1 (k + 7) R0' (.int .u8 (upto : Int)) (.ptr id 0 8) (.sl r 0 vs.length 1 vs.length) (.int .i64 (i : Int)) s' ∧ InvK s' τ id n L f R r vs x1 LL
  | 0, c, _, _, hc, hg => by omega
  | g + 1, c, s, h, hc, hg => by
    have hs : unisonlaw23_OrdersKeeps.l1 (k + 7) R0' (g + 1) = fun x2 x7 x8 x10 x11 s => unisonlaw23_OrdersKeeps.p9 (k + 7) R0' (unisonlaw23_OrdersKeeps.l1 (k + 7) R0' g) x2 x7 x8 x10 x11 s := rfl
    rw [hs]
    clear hs
    simp only
    unfold unisonlaw23_OrdersKeeps.p9
    rw [lss_i]
    by_cases hc2 : c < 2
    · rw [decide_eq_true (by omega), if_t]
      unfold unisonlaw23_OrdersKeeps.p8
      have hv := h.vl
      have hwi : IntKind.u64.wrap (i : Int) = (i : Int) := w_u64 (by omega) (by omega)
      have hwi1 : IntKind.u64.wrap ((i : Int) + 1) = ((i + 1 : Nat) : Int) := by rw [w_u64 (by omega) (by omega)]; omega
      obtain ⟨vb, s1, k1, o1, e1⟩ := obatch_run h.o (fun l hl => by have := (h.small l hl).2; omega) (i + 1) (k + 5)
      have h1 := h.ext e1
      rw [conv_i, hwi, add_i, hwi1, k1, bnd]
      simp only [aExtract, List.getElem?_cons_zero, List.getElem?_cons_succ]
      have hwu : IntKind.i64.wrap (upto : Int) = (upto : Int) := w_i64 (by omega) (by omega)
      obtain ⟨ix, ldx⟩ := h1.ix hi
      have hc1 : IntKind.i64.wrap ((c : Int) + 1) = ((c + 1 : Nat) : Int) := by rw [w_i64 (by omega) (by omega)]; omega
      have eqb : ∀ (b : Bool) {α : Type} (g : Bool → Option α), aEq .bool (.bool b) (.bool b) g = g true := fun b α g => by simp [aEq]
      have rest : ∀ l : List Rn, OwnL rcells 3 s1 vb l s.next → l.length ≤ 4000 → ∃ s', unisonlaw23_OrdersKeeps.p6 (k + 7) R0' (unisonlaw23_OrdersKeeps.l1 (k + 7) R0' g) (.int .u8 (upto : Int)) (.ptr id 0 8) (.sl r 0 vs.length 1 vs.length) (.int .i64 (i : Int)) (.int .i64 (c : Int)) vb s1 = unisonlaw23_OrdersKeeps.p1 (k + 7) R0' (.int .u8 (upto : Int)) (.ptr id 0 8) (.sl r 0 vs.length 1 vs.length) (.int .i64 (i : Int)) s' ∧ InvK s' τ id n L f R r vs x1 LL := by
        intro l ol hll
        unfold unisonlaw23_OrdersKeeps.p6
        have go : ∃ s2, unisonlaw23_OrdersKeeps.l0 (k + 7) R0' (unisonlaw23_OrdersKeeps.l1 (k + 7) R0' g) (k + 7) (.int .u8 (upto : Int)) (.ptr id 0 8) (.sl r 0 vs.length 1 vs.length) (.int .i64 (i : Int)) (.int .i64 (c : Int)) vb (.int .i64 0) s1 = unisonlaw23_OrdersKeeps.p2 (k + 7) R0' (unisonlaw23_OrdersKeeps.l1 (k + 7) R0' g) (.int .u8 (upto : Int)) (.ptr id 0 8) (.sl r 0 vs.length 1 vs.length) (.int .i64 (i : Int)) (.int .i64 (c : Int)) s2 ∧ ExtLo s.next s1 s2 := by
          rcases ol with ⟨rfl, _⟩ | ⟨q, rfl, q1, q2, q3⟩
          · have hs : unisonlaw23_OrdersKeeps.l0 (k + 7) R0' (unisonlaw23_OrdersKeeps.l1 (k + 7) R0' g) (k + 7) = fun x2 x7 x8 x10 x11 x12 x14 s => unisonlaw23_OrdersKeeps.p5 (k + 7) R0' (unisonlaw23_OrdersKeeps.l1 (k + 7) R0' g) (unisonlaw23_OrdersKeeps.l0 (k + 7) R0' (unisonlaw23_OrdersKeeps.l1 (k + 7) R0' g) (k + 6)) x2 x7 x8 x10 x11 x12 x14 s := rfl
            rw [hs]
            simp only
            unfold unisonlaw23_OrdersKeeps.p5
            exact ⟨s1, rfl, ExtLo.refl _ _⟩
          · obtain ⟨s2, k2, e2⟩ := keeps_write (R0 := unisonlaw23_OrdersKeeps.l1 (k + 7) R0' g) (R1 := unisonlaw23_OrdersKeeps.l1 (k + 7) R0' g) (R0' := R0') (k + 7) (x2 := .int .u8 (upto : Int)) (x7 := .ptr id 0 8) (x8 := .sl r 0 vs.length 1 vs.length) (x10 := .int .i64 (i : Int)) (x11 := .int .i64 (c : Int)) (lo := s.next) (show l.length ≤ 1000000 by omega) (k + 7) 0 s1 _ q1 e1.next q3 (flat_len l) (rc_at l) (by omega) (by omega)
            rw [Int.natCast_zero] at k2
            exact ⟨s2, k2, e2⟩
        obtain ⟨s2, k2, e2⟩ := go
        rw [k2]
        unfold unisonlaw23_OrdersKeeps.p2
        rw [add_i, hc1]
        have h2 := h.ext (⟨Nat.le_trans e1.next e2.next, fun q hq => (e2.get q hq).trans (e1.get q hq)⟩ : Ext s s2)
        exact keeps_twice k hk hk2 hu hL hi hf g (c + 1) s2 h2 (by omega) (by omega)
      unfold unisonlaw23_OrdersKeeps.p7
      by_cases hui : upto ≤ i
      · have hyes : f < i + 1 ∧ i + 1 ≤ L.length := by rw [hf]; unfold forgetN; omega
        have hbat : batN L f (i + 1) = L[i] := by
          unfold batN
          rw [if_pos hyes, Nat.add_sub_cancel]
          simp [hi]
        rw [hbat] at o1
        have hge : (i : Int) ≥ (upto : Int) := by omega
        have hsame := same_run o1.is ((h1.els i (by omega) hi).sub vw_sub) (by have := (h.small _ (List.getElem_mem hi)).2; omega) (k + 6) (by have := (h.small _ (List.getElem_mem hi)).2; omega)
        rw [decide_eq_true rfl] at hsame
        simp only [bnd, bnd, guard_tt, guard_ff, guard_tf, guard_ft, pick_t, pick_f, if_t, if_f, add_i, sub_i, lss_i, leq_i, gtr_i, geq_i, eql_i, neq_i, min_i, max_i, conv_i, len_sl, len_nil, not_b, cells_agg, new_s, fld_p, nil_p, hwu, decide_eq_true hyes, decide_eq_true hge, eqb, Bool.not_true, Bool.not_false, ix, ldx, hsame, guard_skip]
        exact rest _ o1 (h.small _ (List.getElem_mem hi)).2
      · have hno : ¬ (f < i + 1 ∧ i + 1 ≤ L.length) := by rw [hf]; unfold forgetN; omega
        have hge : ¬ (i : Int) ≥ (upto : Int) := by omega
        have hbat : batN L f (i + 1) = [] := by unfold batN; rw [if_neg hno]
        rw [hbat] at o1
        have hlb : ∀ {α : Type} (g : AV → Option α), aLen vb g = g (.int .i64 0) := fun g => lenL o1.is g
        simp only [bnd, bnd, guard_tt, guard_ff, guard_tf, guard_ft, pick_t, pick_f, if_t, if_f, add_i, sub_i, lss_i, leq_i, gtr_i, geq_i, eql_i, neq_i, min_i, max_i, conv_i, len_sl, len_nil, not_b, cells_agg, new_s, fld_p, nil_p, hwu, decide_eq_false hno, decide_eq_false hge, eqb, Bool.not_true, Bool.not_false, hlb, guard_skip, show (decide ((0 : Int) > 0)) = false from rfl]
        exact rest _ o1 (by simp)
    · rw [decide_eq_false (by omega), if_f]
      exact ⟨s, rfl, h⟩

theorem keeps_loop (k : Nat) (hk : 1000000 ≤ k) (hk2 : k ≤ 2000000) {upto : Nat} (hu : upto < 256) (hL : L.length ≤ 30) (hf : f = forgetN L 0 upto) : ∀ (g i : Nat) (s : Store), InvK s τ id n L f R r vs x1 LL → i ≤ L.length → L.length - i < g →
    ∃ s', unisonlaw23_OrdersKeeps.l2 (k + 7) g (.int .u8 (upto : Int)) (.ptr id 0 8) (.sl r 0 vs.length 1 vs.length) (.int .i64 (i : Int)) s = some (.bool true, s')
  | 0, i, _, _, hi, hg => by omega
  | g + 1, i, s, h, hi, hg => by
    have hs : unisonlaw23_OrdersKeeps.l2 (k + 7) (g + 1) = fun x2 x7 x8 x10 s => unisonlaw23_OrdersKeeps.p11 (k + 7) (unisonlaw23_OrdersKeeps.l2 (k + 7) g) x2 x7 x8 x10 s := rfl
    rw [hs]
    clear hs
    simp only
    unfold unisonlaw23_OrdersKeeps.p11
    have hv := h.vl
    rw [len_sl, lss_i]
    by_cases hil : i < L.length
    · rw [decide_eq_true (by omega), if_t]
      unfold unisonlaw23_OrdersKeeps.p10
      obtain ⟨s1, k1, h1⟩ := keeps_twice (R0' := unisonlaw23_OrdersKeeps.l2 (k + 7) g) k hk hk2 hu hL hil hf (k + 7) 0 s h (by omega) (by omega)
      rw [Int.natCast_zero] at k1
      rw [k1]
      unfold unisonlaw23_OrdersKeeps.p1
      have hw1 : IntKind.i64.wrap ((i : Int) + 1) = ((i + 1 : Nat) : Int) := by rw [w_i64 (by omega) (by omega)]; omega
      rw [add_i, hw1]
      exact keeps_loop k hk hk2 hu hL hf g (i + 1) s1 h1 (by omega) (by omega)
    · rw [decide_eq_false (by omega), if_f]
      unfold unisonlaw23_OrdersKeeps.p0
      have i1 := insts_run h.o (k + 6)
      have hw1 : IntKind.u64.wrap ((vs.length : Nat) : Int) = ((L.length : Nat) : Int) := by rw [hv, w_u64 (by omega) (by omega)]
      have aw := awake_rn (k + 6) s
      simp only [i1, bnd, bnd, guard_tt, guard_ff, guard_tf, guard_ft, pick_t, pick_f, if_t, if_f, add_i, sub_i, lss_i, leq_i, gtr_i, geq_i, eql_i, neq_i, min_i, max_i, conv_i, len_sl, len_nil, not_b, cells_agg, new_s, fld_p, nil_p, hw1, beq_self_eq_true, aw]
      exact ⟨_, rfl⟩

theorem keeps_decides (k : Nat) (hk : 1000000 ≤ k) (hk2 : k ≤ 2000000) (hLL : LL.length ≤ 30) (hwf : ∀ l ∈ LL, ∀ r ∈ l, WfR r) {upto : Nat} (hu : upto < 256) : ∀ (g i : Nat) (s : Store) (τ : Nat → Nat) (L : List (List Rn)) (R : ORows) (vs : List AV), InvK s τ id n L 0 R r vs x1 LL → L.length ≤ i → i ≤ LL.length → LL.length - i < g →
    ∃ s', unisonlaw23_OrdersKeeps.l3 (k + 7) g x1 (.int .u8 (upto : Int)) (.ptr id 0 8) (.sl r 0 vs.length 1 vs.length) (.int .i64 (i : Int)) s = some (.bool true, s')
  | 0, i, _, _, _, _, _, _, _, hi, hg => by omega
  | g + 1, i, s, τ, L, R, vs, h, hLi, hi, hg => by
    have hs : unisonlaw23_OrdersKeeps.l3 (k + 7) (g + 1) = fun x1 x2 x7 x8 x9 s => unisonlaw23_OrdersKeeps.p16 (k + 7) (unisonlaw23_OrdersKeeps.l3 (k + 7) g) x1 x2 x7 x8 x9 s := rfl
    rw [hs]
    clear hs
    simp only
    unfold unisonlaw23_OrdersKeeps.p16
    have hv := h.vl
    rw [(h.args.sub vw_sub).len, lss_i]
    by_cases hil : i < LL.length
    · rw [decide_eq_true (by omega), if_t]
      unfold unisonlaw23_OrdersKeeps.p15
      have hw := hwf _ (List.getElem_mem hil)
      obtain ⟨q, w, q1, q2, hr⟩ := h.args.at' vw_sub hil
      generalize LL[i] = l at *
      have hb : ∀ {α : Type} (g : List AV → Option α), aBuild [(1, 1, w)] [AV.int .i64 0, AV.nilsl, AV.int .u64 0] g = g [.int .i64 0, w, .int .u64 0] := fun g => by
        rcases hr with ⟨rfl, _⟩ | ⟨_, _, rfl, _⟩ <;> rfl
      obtain ⟨s1, k1, e1⟩ := great_run (hr.sub vw_sub) hw 0 0 (k + 4) (by omega) (by omega)
      rw [q1, q2, hb, k1, bnd]
      simp only
      by_cases hgr : (decide (100 < l.length) || decide (300 < countR 0 l)) = true
      · rw [hgr, if_t]
        have := awake_rn (k + 6) s1
        rw [this, bnd]
        exact ⟨_, rfl⟩
      · have hgr' : (decide (100 < l.length) || decide (300 < countR 0 l)) = false := by simpa using hgr
        rw [hgr', if_f]
        have hl100 : l.length ≤ 100 := by
          rw [Bool.or_eq_false_iff] at hgr'
          have := of_decide_eq_false hgr'.1; omega
        have h1 := h.ext e1
        have hr1 : IsRuns (vw τ r s1) w l := hr.sub (vw_ext e1)
        have ld : ∀ {s' : Store}, s.next ≤ s'.next → Sub (vw τ r s) s' → ∀ {α : Type} (g : AV → Option α), aLoad1 q s' g = g w := fun {s'} hn hsub {α} g => by
          obtain ⟨q', w', z1, z2, _⟩ := h.args.at' hsub hil
          have e1 := z1 (α := AV) .i64 some
          have e2 := q1 (α := AV) .i64 some
          rw [e1] at e2
          obtain rfl : q' = q := Option.some.inj e2
          obtain ⟨vs', a1, a2, a3⟩ := h.args
          have hi' : i < vs'.length := by omega
          rcases a1 with ⟨_, rfl⟩ | ⟨y, ro, rfl, y1, y2⟩
          · simp at hi'
          · have y3 : s'.get y = .cells (vs'.map fun v => [v]).flatten ro := (hsub.get y y1 (by rw [y2]; simp)).trans y2
            have y4 : s.get y = .cells (vs'.map fun v => [v]).flatten ro := ((vw_sub (τ := τ) (p := r)).get y y1 (by rw [y2]; simp)).trans y2
            have iq := idxL (es := 1) (ep := vs'.length * 1) (id := y) (k := .i64) hi' (fun p => (some p : Option AV))
            rw [e1] at iq
            obtain rfl : q' = .ptr y (0 + i * 1) (vs'.length * 1) := Option.some.inj iq
            have f1 := fldL (c := fun v => [v]) (es := 1) one_len y4 hi' (j := 0) (v := vs'[i]) rfl (fun v => (some v : Option AV))
            have f2 := q2 (α := AV) some
            have f2' : aLoad1 (.ptr y (0 + i * 1 + 0) (vs'.length * 1)) s (fun v => (some v : Option AV)) = some w := f2
            rw [f2'] at f1
            obtain rfl : w = vs'[i] := Option.some.inj f1
            exact fldL (c := fun v => [v]) (es := 1) one_len y3 hi' (j := 0) (v := vs'[i]) rfl g
        have sub1 : Sub (vw τ r s) s1 := vw_sub.trans e1.sub
        obtain ⟨s2, τ2, R2, k2, o2, f2, t2⟩ := decide_run h1.o (by omega) (hr1.sub vw_sub) (vw_tag hr1) hw (by omega) k (by omega) (by omega)
        rw [q1, ld e1.next sub1, k2, bnd]
        simp only
        have sub2 : Sub (vw τ r s) (vw τ2 r s2) := (vw_ext e1).trans (vw_frT f2 t2)
        have lt2 : r < s2.next := Nat.lt_of_lt_of_le h1.lt f2.next
        have row2 : s2.get r = .cells vs false := (f2.get _ h1.lt h1.tag).trans h1.row
        have tag2 : τ2 r = 0 := (t2 _ h1.lt).trans h.tag
        have hw1 : IntKind.i64.wrap ((i : Int) + 1) = ((i + 1 : Nat) : Int) := by rw [w_i64 (by omega) (by omega)]; omega
        by_cases hm : mayR (baseOf n L) 4096 l = true
        · rw [if_pos hm] at o2
          rw [hm, if_t]
          have hb2 : ∀ {α : Type} (g : List AV → Option α), aBuild [(0, 1, w)] [AV.nilsl] g = g [w] := fun g => by
            rcases hr with ⟨rfl, _⟩ | ⟨_, _, rfl, _⟩ <;> rfl
          rw [q1, ld (Nat.le_trans e1.next f2.next) (sub2.trans vw_sub), hb2, one_row s2 row2 lt2 w (by omega)]
          unfold unisonlaw23_OrdersKeeps.p14
          rw [add_i, hw1]
          have e3 := Ext.push s2 (.cells [w] false)
          have sub3 : Sub (vw τ2 r s2) (vw τ2 r ((s2.push (.cells [w] false)).set r (.cells (vs ++ [w]) false))) := by rw [vw_set]; exact vw_ext e3
          refine keeps_decides k hk hk2 hLL hwf hu g (i + 1) _ τ2 (L ++ [l]) R2 (vs ++ [w]) ⟨?_, by rw [get_set, if_pos rfl], Nat.lt_of_lt_of_le lt2 e3.next, tag2, by simp [hv], fun j hj hj' => ?_, (h.args.sub sub2).sub sub3, fun y hy => ?_⟩ (by simp; omega) (by omega) (by omega)
          · exact o2.keep e3.next (fun y hy hy2 => by rw [get_set, if_neg (fun e => hy2 (by rw [e]; exact tag2))]; exact e3.get y hy)
          · by_cases hjl : j < vs.length
            · rw [List.getElem_append_left hjl, List.getElem_append_left (by omega)]
              exact ((h.els j hjl (by omega)).sub sub2).sub sub3
            · have hj2 : j = vs.length := by simp at hj; omega
              subst hj2
              have hL2 : (L ++ [l])[vs.length]'hj' = l := by simp [hv]
              simp only [List.getElem_concat_length, hL2]
              exact (hr.sub sub2).sub sub3
          · rcases List.mem_append.1 hy with z | z
            · exact h.small y z
            · rw [List.mem_singleton.1 z]; exact ⟨hw, by omega⟩
        · have hm' : mayR (baseOf n L) 4096 l = false := by simpa using hm
          rw [if_neg hm] at o2
          rw [hm', if_f]
          unfold unisonlaw23_OrdersKeeps.p14
          rw [add_i, hw1]
          exact keeps_decides k hk hk2 hLL hwf hu g (i + 1) s2 τ2 L R2 vs ⟨o2, row2, lt2, tag2, hv, fun j hj hj' => (h.els j hj hj').sub sub2, h.args.sub sub2, h.small⟩ (by omega) (by omega) (by omega)
    · rw [decide_eq_false (by omega), if_f]
      unfold unisonlaw23_OrdersKeeps.p13
      have hwu : IntKind.u64.wrap (upto : Int) = (upto : Int) := w_u64 (by omega) (by omega)
      obtain ⟨s1, R1, k1, o1, f1⟩ := forget_run h.o (by omega) upto (by omega) (k + 6) (by omega)
      rw [conv_i, hwu, k1, bnd]
      unfold unisonlaw23_OrdersKeeps.p12
      have sub1 : Sub (vw τ r s) (vw τ r s1) := vw_frT f1 (fun _ _ => rfl)
      have hI : InvK s1 τ id n L (forgetN L 0 upto) R1 r vs x1 LL := ⟨o1, (f1.get _ h.lt h.tag).trans h.row, Nat.lt_of_lt_of_le h.lt f1.next, h.tag, hv, fun j hj hj' => (h.els j hj hj').sub sub1, h.args.sub sub1, h.small⟩
      have := keeps_loop k hk hk2 hu (by omega) rfl (k + 7) 0 s1 hI (by omega) (by omega)
      rw [Int.natCast_zero] at this
      exact this
end

theorem keeps_run {s : Store} {x1 : AV} {LL : List (List Rn)} (h1 : IsLL s x1 LL) (hwf : ∀ l ∈ LL, ∀ r ∈ l, WfR r) (a u : Int) (hu : 0 ≤ u ∧ u < 256) : ∃ s', rn 1000008 3 [.int .i64 a, x1, .int .u8 u] s = some (.bool true, s') := by
  rw [show 1000008 = 1000000 + 7 + 1 from rfl, unisonlaw23_OrdersKeeps.eq]
  unfold unisonlaw23_OrdersKeeps.f unisonlaw23_OrdersKeeps.p21 unisonlaw23_OrdersKeeps.p20
  rw [h1.len, gtr_i]
  by_cases hA : ((LL.length : Nat) : Int) > 30
  · rw [decide_eq_true hA, if_t]
    have := awake_rn (1000000 + 6) s
    rw [this, bnd]
    exact ⟨_, rfl⟩
  · rw [decide_eq_false hA, if_f]
    unfold unisonlaw23_OrdersKeeps.p19
    obtain ⟨s2, R, k2, o2, e2⟩ := new_run a (1000000 + 6) s
    rw [k2, bnd]
    unfold unisonlaw23_OrdersKeeps.p18
    rw [build_0]
    have e3 := Ext.push s2 (.cells [] false)
    have g3 : (s2.push (.cells [] false)).get s2.next = .cells [] false := by rw [get_push, if_pos rfl]
    have n3 : s2.next < (s2.push (.cells [] false)).next := Nat.lt_succ_self _
    simp only
    generalize (s2.push (.cells [] false)) = s3 at *
    obtain ⟨un, rfl⟩ : ∃ un : Nat, u = un := ⟨u.toNat, by omega⟩
    have hI : InvK s3 (newTags s.next) (s.next + 8) (max 1 (min a 64)).toNat [] 0 R s2.next [] x1 LL :=
      ⟨o2.ext e3, g3, n3, o2.fresh _ (Nat.le_refl _), rfl, fun i hi => absurd hi (Nat.not_lt_zero _), h1.sub (old_sub (e2.trans e3) fun r hr => ⟨by unfold newTags; rw [if_neg (by omega), if_neg (by omega), if_neg (by omega), if_neg (by omega)], by have := e2.next; omega⟩), fun l hl => by simp at hl⟩
    unfold unisonlaw23_OrdersKeeps.p17
    have := keeps_decides 1000000 (by omega) (by omega) (by omega) hwf (upto := un) (by omega) (1000000 + 7) 0 s3 _ [] R [] hI (Nat.le_refl _) (Nat.zero_le _) (by omega)
    rw [Int.natCast_zero] at this
    exact this
end Go.Proofs.Ytahiipfjhjeofaa.Sim
