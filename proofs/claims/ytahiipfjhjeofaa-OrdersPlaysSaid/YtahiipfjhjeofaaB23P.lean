/- Layer 23: the law OrdersPlays, its run. No condition. -/
import Derived.Test.YtahiipfjhjeofaaB23I
import Derived.Test.YtahiipfjhjeofaaFunPlays
namespace Go.Proofs.Ytahiipfjhjeofaa.Sim
set_option linter.unusedSimpArgs false
set_option linter.unusedVariables false

structure InvP (s : Store) (τ : Nat → Nat) (id n : Nat) (L : List (List Rn)) (d f : Nat) (R : ORows) (p : Nat) (v x1 : AV) (A : List ActR) : Prop where
  o : IsO s τ id n L d f R
  row : s.get p = .cells (mcells n v d f) false
  lt : p < s.next
  tag : τ p = 0
  ll : IsLL (vw τ p s) v L
  acts : IsActs (vw τ p s) x1 A
  small : SmallL L
theorem eq_bool (b : Bool) {α : Type} (g : Bool → Option α) : aEq .bool (.bool b) (.bool b) g = g true := by simp [aEq]
theorem bat_small {L : List (List Rn)} (h : SmallL L) (f x : Nat) : (batN L f x).length ≤ 4000 := by
  unfold batN
  split
  · rename_i hc
    have : L.getD (x - 1) [] = L[x - 1]'(by omega) := by simp [show x - 1 < L.length by omega]
    rw [this]; exact (h _ (List.getElem_mem _)).2
  · simp

section
variable {s : Store} {τ : Nat → Nat} {id n d f p : Nat} {L : List (List Rn)} {R : ORows} {v x1 : AV} {A : List ActR}
theorem InvP.ext {s' : Store} (h : InvP s τ id n L d f R p v x1 A) (e : Ext s s') : InvP s' τ id n L d f R p v x1 A :=
  ⟨h.o.ext e, (e.get _ h.lt).trans h.row, Nat.lt_of_lt_of_le h.lt e.next, h.tag, h.ll.sub (vw_ext e), h.acts.sub (vw_ext e), h.small⟩
theorem InvP.l (h : InvP s τ id n L d f R p v x1 A) : IsLL s v L := h.ll.sub vw_sub
theorem InvP.ld (h : InvP s τ id n L d f R p v x1 A) {j : Nat} {w : AV} (hw : (mcells n v d f)[j]? = some w) {α : Type} (g : AV → Option α) : aLoad1 (.ptr p (0 + j) 4) s g = g w := ld_fld h.row rfl hw g
theorem InvP.all (h : InvP s τ id n L d f R p v x1 A) {α : Type} (g : AV → Option α) : aLoadN 4 (.ptr p 0 4) s g = g (.agg (mcells n v d f)) := ld_m h.row rfl g

/-- What is asked behind an act: the document says the same. -/
theorem plays_checks {R0 : AV → AV → AV → AV → AV → Store → Option (AV × Store)} (h : InvP s τ id n L d f R p v x1 A) (hL : L.length ≤ 60) (x : Nat) (hx : x < 18446744073709551616) (x9 : AV) (k : Nat) (hk : 1000000 ≤ k) (hk2 : k ≤ 2000000) :
    ∃ s', unisonlaw23_OrdersPlays.p9 (k + 7) R0 x1 (.int .u64 (x : Int)) (.ptr id 0 8) (.ptr p 0 4) x9 s = unisonlaw23_OrdersPlays.p1 (k + 7) R0 x1 (.int .u64 (x : Int)) (.ptr id 0 8) (.ptr p 0 4) x9 s' ∧ Ext s s' := by
  have hok := h.o.ok
  have hn := h.o.n1
  have hdl := h.o.dle
  have hfl := h.o.fle
  have hil := ids_le hok
  have hwl := wholeN_le L d
  unfold unisonlaw23_OrdersPlays.p9
  obtain ⟨x18, s1, k1, o1, e1⟩ := mids_run (n := n) (d := d) (f := f) h.l h.small (by omega) (by omega) (k + 1) (by omega) (by omega)
  rw [h.all, k1, bnd]
  have h1 := h.ext e1
  unfold unisonlaw23_OrdersPlays.p8
  obtain ⟨s2, k2, e2⟩ := onext_run h1.o (k + 5)
  rw [k2, bnd]
  simp only [aExtract, List.getElem?_cons_zero, List.getElem?_cons_succ]
  have e3 := Ext.push s2 (.cells [AV.int .u8 0, AV.int .u64 0] false)
  have g3 : (s2.push (.cells [AV.int .u8 0, AV.int .u64 0] false)).get s2.next = .cells [AV.int .u8 0, AV.int .u64 0] false := by rw [get_push, if_pos rfl]
  have n3 : s2.next < (s2.push (.cells [AV.int .u8 0, AV.int .u64 0] false)).next := Nat.lt_succ_self _
  rw [new_s, show ([AV.int .u8 0, AV.int .u64 0] : List AV).length = 2 from rfl]
  generalize (s2.push (.cells [AV.int .u8 0, AV.int .u64 0] false)) = s3 at *
  rw [st_id g3 rfl]
  have e4 : Ext s2 (s3.set s2.next (.cells (icells (nid L d)) false)) := ⟨e3.next, fun q hq => by rw [get_set, if_neg (by omega)]; exact e3.get q hq⟩
  have g4 : (s3.set s2.next (.cells (icells (nid L d)) false)).get s2.next = .cells (icells (nid L d)) false := by rw [get_set, if_pos rfl]
  have n4 : s2.next < (s3.set s2.next (.cells (icells (nid L d)) false)).next := n3
  generalize (s3.set s2.next (.cells (icells (nid L d)) false)) = s4 at *
  have h4 := h1.ext (e2.trans e4)
  unfold unisonlaw23_OrdersPlays.p7
  obtain ⟨vb, s5, k5, o5, e5⟩ := obatch_run h4.o (fun l hl => by have := (h.small l hl).2; omega) x (k + 5)
  rw [k5, bnd]
  simp only [aExtract, List.getElem?_cons_zero, List.getElem?_cons_succ]
  have h5 := h4.ext e5
  unfold unisonlaw23_OrdersPlays.p6
  obtain ⟨vm, s6, k6, o6, e6⟩ := mbatch_run (n := n) (d := d) (f := f) h5.l hfl (by omega) x hx (k + 6)
  rw [h5.all, k6, bnd]
  simp only [aExtract, List.getElem?_cons_zero, List.getElem?_cons_succ]
  have h6 := h5.ext e6
  have e46 := e5.trans e6
  have e26 := e4.trans e46
  have e16 := e2.trans e26
  have g6 : s6.get s2.next = .cells (icells (nid L d)) false := (e46.get _ n4).trans g4
  have o16 : IsL icells 2 s6 x18 (idsOf L) := o1.is.ext e16
  have vb6 : IsRuns s6 vb (batN L f x) := o5.is.ext e6
  have hlx : ∀ {s' : Store} {α : Type} (g : AV → Option α), aLen x18 g = g (.int .i64 ((idsOf L).length : Nat)) := fun g => lenL o16 g
  have ksame := same_run vb6 o6 (by have := bat_small h.small f x; omega) (k + 6) (by have := bat_small h.small f x; omega)
  rw [decide_eq_true rfl] at ksame
  -- the next id, the batch
  have hlen6 : ∀ {α : Type} (g : AV → Option α), aLen x18 g = g (.int .i64 ((idsOf L).length : Nat)) := fun g => lenL o16 g
  have p5 : unisonlaw23_OrdersPlays.p5 (k + 7) R0 x1 (.int .u64 (x : Int)) (.ptr id 0 8) (.ptr p 0 4) x9 x18 (.ptr s2.next 0 2) (.bool (decide (d < (idsOf L).length))) vb (.bool (decide (f < x ∧ x ≤ L.length))) vm (.bool (decide (f < x ∧ x ≤ L.length))) s6 =
      unisonlaw23_OrdersPlays.p4 (k + 7) R0 x1 (.int .u64 (x : Int)) (.ptr id 0 8) (.ptr p 0 4) x9 x18 (.bool false) s6 := by
    unfold unisonlaw23_OrdersPlays.p5
    by_cases hd : d < (idsOf L).length
    · have hdi : ((d : Nat) : Int) < ((idsOf L).length : Nat) := by omega
      obtain ⟨q, q1, q2⟩ := elemL ic_len o16 hd
      have lq : ∀ {α : Type} (g : AV → Option α), aLoadN 2 (.ptr s2.next 0 2) s6 g = g (.agg (icells (idsOf L)[d])) := fun g => by rw [ld_id g6, nid_at hd]
      simp only [bnd, bnd, guard_tt, guard_ff, guard_tf, guard_ft, pick_t, pick_f, if_t, if_f, add_i, sub_i, lss_i, leq_i, gtr_i, geq_i, eql_i, neq_i, min_i, max_i, conv_i, len_sl, len_nil, not_b, cells_agg, new_s, fld_p, nil_p, h6.ld (j := 2) rfl, hlen6, decide_eq_true hd, decide_eq_true hdi, eq_bool, Bool.not_true, lq, q1, q2, eq_ids, decide_true, ksame]
    · have hdi : ¬ ((d : Nat) : Int) < ((idsOf L).length : Nat) := by omega
      simp only [bnd, bnd, guard_tt, guard_ff, guard_tf, guard_ft, pick_t, pick_f, if_t, if_f, add_i, sub_i, lss_i, leq_i, gtr_i, geq_i, eql_i, neq_i, min_i, max_i, conv_i, len_sl, len_nil, not_b, cells_agg, new_s, fld_p, nil_p, h6.ld (j := 2) rfl, hlen6, decide_eq_false hd, decide_eq_false hdi, eq_bool, Bool.not_true, ksame]
  rw [p5]
  unfold unisonlaw23_OrdersPlays.p4
  rw [if_f]
  -- the counts
  obtain ⟨s7, k7, e7⟩ := mwhole_run (n := n) (d := d) (f := f) h6.l h6.small (by omega) (by omega) hdl (k + 1) (by omega) (by omega)
  have h7 := h6.ext e7
  obtain ⟨vo, s8, k8, o8, e8⟩ := ordered_run h7.o (k + 5)
  have h8 := h7.ext e8
  obtain ⟨mo, s9, k9, o9, e9⟩ := mord_run (d := d) (f := f) h8.l hok hn.2 h8.small (by omega) (k + 1) (by omega) (by omega)
  have h9 := h8.ext e9
  obtain ⟨vd, s10, k10, o10, e10⟩ := odone_run h9.o (k + 5)
  have h10 := h9.ext e10
  obtain ⟨md, s11, k11, o11, e11⟩ := mdone_run (f := f) h10.l hok hn h10.small (by omega) (by omega) hdl k (by omega) (by omega)
  have hbl : (baseOf n L).length = n := baseOf_len n L
  have hdn : (doneOf n L d).length = n := doneOf_len n L d
  have eq1 := equal_same (o8.is.ext e9) o9 (k + 3) (by omega) (by omega)
  have eq2 := equal_same (o10.is.ext e11) o11 (k + 3) (by omega) (by omega)
  have hw1 : IntKind.u64.wrap ((L.length : Nat) : Int) = ((L.length : Nat) : Int) := w_u64 (by omega) (by omega)
  have hw2 : IntKind.i64.wrap (((idsOf L).length : Int) - (d : Int)) = (((idsOf L).length - d : Nat) : Int) := by rw [w_i64 (by omega) (by omega)]; omega
  have i6 := insts_run h6.o (k + 6)
  have w6 := whole_run h6.o (k + 6)
  have t7 := owaits_run h7.o (k + 6)
  unfold unisonlaw23_OrdersPlays.p3
  simp only [bnd, bnd, guard_tt, guard_ff, guard_tf, guard_ft, pick_t, pick_f, if_t, if_f, add_i, sub_i, lss_i, leq_i, gtr_i, geq_i, eql_i, neq_i, min_i, max_i, conv_i, len_sl, len_nil, not_b, cells_agg, new_s, fld_p, nil_p, i6, h6.ld (j := 1) rfl, aSame_self, h6.l.len, hw1, bne_self_eq_false, w6, h6.all, k7, t7, hlen6, h7.ld (j := 2) rfl, hw2, k8, h8.all, h7.all, k9, eq1, Bool.not_true, k10, h10.all, h9.all, k11, eq2]
  unfold unisonlaw23_OrdersPlays.p2
  rw [if_f]
  exact ⟨s11, rfl, e1.trans (e16.trans (e7.trans (e8.trans (e9.trans (e10.trans e11)))))⟩

theorem vw_tag {w : AV} {l : List Rn} (h : IsRuns (vw τ p s) w l) : ∀ a b c e g, w = .sl a b c e g → τ a = 0 := by
  intro a b c e g hw
  rcases h with ⟨q, _⟩ | ⟨x, ro, q1, q2, q3⟩
  · rw [q] at hw; cases hw
  · rw [q1] at hw
    cases hw
    unfold vw at q3
    simp only at q3
    split at q3
    · rename_i hc; exact hc.1
    · cases q3

theorem plays_decide {R0 : AV → AV → AV → AV → AV → Store → Option (AV × Store)} (h : InvP s τ id n L d f R p v x1 A) (hL : L.length ≤ 59) {x10 : Nat} {a : ActR} {w : AV} (hx10 : s.get x10 = .cells [.int .i64 a.1, w, .int .u64 (a.2.2 : Int)] false) (hlt : x10 < s.next) (hne : x10 ≠ p) (ht10 : τ x10 = 0)
    (hr : IsRuns (vw τ p s) w a.2.1) (hw : ∀ r ∈ a.2.1, WfR r) (hl : a.2.1.length ≤ 100) (x : Nat) (hx : x < 18446744073709551616) (x9 : AV) (k : Nat) (hk : 1000000 ≤ k) (hk2 : k ≤ 2000000) :
    ∃ s' τ' L' R' v', unisonlaw23_OrdersPlays.p10 (k + 7) R0 x1 (.int .u64 (x : Int)) (.ptr id 0 8) (.ptr p 0 4) x9 (.ptr x10 0 3) s = unisonlaw23_OrdersPlays.p1 (k + 7) R0 x1 (.int .u64 (x : Int)) (.ptr id 0 8) (.ptr p 0 4) x9 s' ∧ InvP s' τ' id n L' d f R' p v' x1 A ∧ L'.length ≤ L.length + 1 := by
  unfold unisonlaw23_OrdersPlays.p10
  have hrs := hr.sub vw_sub
  have ld1 : ∀ {α : Type} (g : AV → Option α), aLoad1 (.ptr x10 (0 + 1) 3) s g = g w := fun g => load_1 hx10 rfl rfl
  obtain ⟨v', s1, k1, e1, cv, hll⟩ := mdecide_run (d := d) (f := f) vw_sub h.ll h.o.ok h.o.n1.2 h.small (by omega) hr hw (by omega) k (by omega) (by omega)
  simp only [h.all, bnd, guard_tt, guard_ff, guard_tf, guard_ft, pick_t, pick_f, if_t, if_f, add_i, sub_i, lss_i, leq_i, gtr_i, geq_i, eql_i, neq_i, min_i, max_i, conv_i, len_sl, len_nil, not_b, cells_agg, new_s, fld_p, nil_p, ld1, k1, aExtract, List.getElem?_cons_zero, List.getElem?_cons_succ]
  have e2 := Ext.push s1 (.cells zero4 false)
  have g2 : (s1.push (.cells zero4 false)).get s1.next = .cells zero4 false := by rw [get_push, if_pos rfl]
  have n2 : (s1.push (.cells zero4 false)).next = s1.next + 1 := rfl
  rw [show zero4.length = 4 from rfl]
  generalize (s1.push (.cells zero4 false)) = s2 at *
  have r3 : (s2.set s1.next (.cells (mcells n v' d f) false)).get s1.next = .cells (mcells n v' d f) false := by rw [get_set, if_pos rfl]
  have p1 : s1.next ≠ p := by have := h.lt; have := e1.next; omega
  have e3 : Ext s (s2.set s1.next (.cells (mcells n v' d f) false)) := ⟨Nat.le_trans e1.next e2.next, fun q hq => by rw [get_set, if_neg (by have := e1.next; omega)]; exact (e2.get q (Nat.lt_of_lt_of_le hq e1.next)).trans (e1.get q hq)⟩
  have q3 : ∀ q, q < s1.next → (s2.set s1.next (.cells (mcells n v' d f) false)).get q = s1.get q := fun q hq => by rw [get_set, if_neg (by omega)]; exact e2.get q hq
  have n3 : (s2.set s1.next (.cells (mcells n v' d f) false)).next = s1.next + 1 := n2
  rw [st_m g2 rfl (show (mcells n v' d f).length = 4 from rfl), ld_m r3 rfl]
  generalize (s2.set s1.next (.cells (mcells n v' d f) false)) = s3 at *
  have h3 := h.ext e3
  have r4 : (s3.set p (.cells (mcells n v' d f) false)).get p = .cells (mcells n v' d f) false := by rw [get_set, if_pos rfl]
  have a4 : ∀ q, q ≠ p → (s3.set p (.cells (mcells n v' d f) false)).get q = s3.get q := fun q hq => by rw [get_set, if_neg hq]
  rw [st_m h3.row rfl (show (mcells n v' d f).length = 4 from rfl)]
  have o4 : IsO (s3.set p (.cells (mcells n v' d f) false)) τ id n L d f R := h3.o.keep (Nat.le_refl _) fun r _ hr => a4 r (fun e => hr (by rw [e]; exact h.tag))
  have sub4 : Sub (vw τ p s) (vw τ p (s3.set p (.cells (mcells n v' d f) false))) := by rw [vw_set]; exact vw_ext e3
  have ll4 : IsLL (vw τ p (s3.set p (.cells (mcells n v' d f) false))) v' (if mayR (baseOf n L) 4096 a.2.1 = true then L ++ [a.2.1] else L) := hll _ (by show s1.next ≤ s3.next; omega) sub4 fun q hq hq2 => by
    rw [vw_get (h.o.fresh q hq) (by have := h.lt; omega), a4 q (by have := h.lt; omega)]
    exact q3 q hq2
  have lt4 : p < (s3.set p (.cells (mcells n v' d f) false)).next := h3.lt
  have x4 : (s3.set p (.cells (mcells n v' d f) false)).get x10 = .cells [.int .i64 a.1, w, .int .u64 (a.2.2 : Int)] false := by rw [a4 _ hne, e3.get _ hlt]; exact hx10
  have ld4 : ∀ {α : Type} (g : AV → Option α), aLoad1 (.ptr x10 (0 + 1) 3) (s3.set p (.cells (mcells n v' d f) false)) g = g w := fun g => load_1 x4 rfl rfl
  generalize (s3.set p (.cells (mcells n v' d f) false)) = s4 at *
  obtain ⟨s5, τ5, R5, k5, o5, f5, t5⟩ := decide_run o4 (by omega) (hr.sub sub4 |>.sub vw_sub) (vw_tag hr) hw (by omega) k (by omega) (by omega)
  simp only [bnd, guard_tt, guard_ff, guard_tf, guard_ft, pick_t, pick_f, if_t, if_f, add_i, sub_i, lss_i, leq_i, gtr_i, geq_i, eql_i, neq_i, min_i, max_i, conv_i, len_sl, len_nil, not_b, cells_agg, new_s, fld_p, nil_p, ld4, k5, eq_bool, Bool.not_true]
  have hi5 : InvP s5 τ5 id n (if mayR (baseOf n L) 4096 a.2.1 = true then L ++ [a.2.1] else L) d f R5 p v' x1 A :=
    ⟨o5, (f5.get _ lt4 h.tag).trans r4, Nat.lt_of_lt_of_le lt4 f5.next, (t5 _ lt4).trans h.tag, ll4.sub (vw_frT f5 t5), (h.acts.sub sub4).sub (vw_frT f5 t5), by
      split
      · intro y hy
        rcases List.mem_append.1 hy with q | q
        · exact h.small y q
        · rw [List.mem_singleton.1 q]; exact ⟨hw, by omega⟩
      · exact h.small⟩
  have hlen : (if mayR (baseOf n L) 4096 a.2.1 = true then L ++ [a.2.1] else L).length ≤ L.length + 1 := by split <;> simp
  generalize (if mayR (baseOf n L) 4096 a.2.1 = true then L ++ [a.2.1] else L) = L' at *
  obtain ⟨s6, k6, e6⟩ := plays_checks (R0 := R0) hi5 (by omega) x hx x9 k hk hk2
  exact ⟨s6, τ5, L', R5, v', k6, hi5.ext e6, hlen⟩

theorem plays_forget {R0 : AV → AV → AV → AV → AV → Store → Option (AV × Store)} (h : InvP s τ id n L d f R p v x1 A) (hL : L.length ≤ 60) {x10 : Nat} {a : ActR} {w : AV} (hx10 : s.get x10 = .cells [.int .i64 a.1, w, .int .u64 (a.2.2 : Int)] false) (hlt : x10 < s.next) (hne : x10 ≠ p) (ht10 : τ x10 = 0)
    (hN : a.2.2 < 18446744073709551616) (x : Nat) (hx : x < 18446744073709551616) (x9 : AV) (k : Nat) (hk : 1000000 ≤ k) (hk2 : k ≤ 2000000) :
    ∃ s' f' R', unisonlaw23_OrdersPlays.p16 (k + 7) R0 x1 (.int .u64 (x : Int)) (.ptr id 0 8) (.ptr p 0 4) x9 (.ptr x10 0 3) s = unisonlaw23_OrdersPlays.p1 (k + 7) R0 x1 (.int .u64 (x : Int)) (.ptr id 0 8) (.ptr p 0 4) x9 s' ∧ InvP s' τ id n L d f' R' p v x1 A := by
  unfold unisonlaw23_OrdersPlays.p16
  have ld1 : ∀ {α : Type} (g : AV → Option α), aLoad1 (.ptr x10 (0 + 2) 3) s g = g (.int .u64 (a.2.2 : Int)) := fun g => load_1 hx10 rfl rfl
  obtain ⟨s1, k1, e1⟩ := mforget_run (n := n) (d := d) (f := f) h.l h.o.fle (by omega) a.2.2 hN (k + 6)
  simp only [h.all, bnd, guard_tt, guard_ff, guard_tf, guard_ft, pick_t, pick_f, if_t, if_f, add_i, sub_i, lss_i, leq_i, gtr_i, geq_i, eql_i, neq_i, min_i, max_i, conv_i, len_sl, len_nil, not_b, cells_agg, new_s, fld_p, nil_p, ld1, k1, aExtract, List.getElem?_cons_zero, List.getElem?_cons_succ]
  generalize hf' : forgetN L f a.2.2 = f' at *
  have e2 := Ext.push s1 (.cells zero4 false)
  have g2 : (s1.push (.cells zero4 false)).get s1.next = .cells zero4 false := by rw [get_push, if_pos rfl]
  rw [show zero4.length = 4 from rfl]
  generalize (s1.push (.cells zero4 false)) = s2 at *
  have r3 : (s2.set s1.next (.cells (mcells n v d f') false)).get s1.next = .cells (mcells n v d f') false := by rw [get_set, if_pos rfl]
  have e3 : Ext s (s2.set s1.next (.cells (mcells n v d f') false)) := ⟨Nat.le_trans e1.next e2.next, fun q hq => by rw [get_set, if_neg (by have := e1.next; omega)]; exact (e2.get q (Nat.lt_of_lt_of_le hq e1.next)).trans (e1.get q hq)⟩
  rw [st_m g2 rfl (show (mcells n v d f').length = 4 from rfl), ld_m r3 rfl]
  generalize (s2.set s1.next (.cells (mcells n v d f') false)) = s3 at *
  have h3 := h.ext e3
  have r4 : (s3.set p (.cells (mcells n v d f') false)).get p = .cells (mcells n v d f') false := by rw [get_set, if_pos rfl]
  have a4 : ∀ q, q ≠ p → (s3.set p (.cells (mcells n v d f') false)).get q = s3.get q := fun q hq => by rw [get_set, if_neg hq]
  rw [st_m h3.row rfl (show (mcells n v d f').length = 4 from rfl)]
  have o4 : IsO (s3.set p (.cells (mcells n v d f') false)) τ id n L d f R := h3.o.keep (Nat.le_refl _) fun r _ hr => a4 r (fun e => hr (by rw [e]; exact h.tag))
  have sub4 : Sub (vw τ p s) (vw τ p (s3.set p (.cells (mcells n v d f') false))) := by rw [vw_set]; exact vw_ext e3
  have lt4 : p < (s3.set p (.cells (mcells n v d f') false)).next := h3.lt
  have x4 : (s3.set p (.cells (mcells n v d f') false)).get x10 = .cells [.int .i64 a.1, w, .int .u64 (a.2.2 : Int)] false := by rw [a4 _ hne, e3.get _ hlt]; exact hx10
  have ld4 : ∀ {α : Type} (g : AV → Option α), aLoad1 (.ptr x10 (0 + 2) 3) (s3.set p (.cells (mcells n v d f') false)) g = g (.int .u64 (a.2.2 : Int)) := fun g => load_1 x4 rfl rfl
  generalize (s3.set p (.cells (mcells n v d f') false)) = s4 at *
  obtain ⟨s5, R5, k5, o5, f5⟩ := forget_run o4 (by omega) a.2.2 hN (k + 6) (by omega)
  rw [hf'] at k5 o5
  simp only [bnd, guard_tt, guard_ff, guard_tf, guard_ft, pick_t, pick_f, if_t, if_f, add_i, sub_i, lss_i, leq_i, gtr_i, geq_i, eql_i, neq_i, min_i, max_i, conv_i, len_sl, len_nil, not_b, cells_agg, new_s, fld_p, nil_p, ld4, k5, bne_self_eq_false]
  have hi5 : InvP s5 τ id n L d f' R5 p v x1 A :=
    ⟨o5, (f5.get _ lt4 h.tag).trans r4, Nat.lt_of_lt_of_le lt4 f5.next, h.tag, (h.ll.sub sub4).sub (vw_frT f5 (fun _ _ => rfl)), (h.acts.sub sub4).sub (vw_frT f5 (fun _ _ => rfl)), h.small⟩
  obtain ⟨s6, k6, e6⟩ := plays_checks (R0 := R0) hi5 hL x hx x9 k hk hk2
  exact ⟨s6, f', R5, k6, hi5.ext e6⟩

theorem plays_deliver {R0 : AV → AV → AV → AV → AV → Store → Option (AV × Store)} (h : InvP s τ id n L d f R p v x1 A) (hL : L.length ≤ 60) (x : Nat) (hx : x < 18446744073709551616) (x9 : AV) (k : Nat) (hk : 1000000 ≤ k) (hk2 : k ≤ 2000000) :
    ∃ s' d' R', unisonlaw23_OrdersPlays.p15 (k + 7) R0 x1 (.int .u64 (x : Int)) (.ptr id 0 8) (.ptr p 0 4) x9 s = unisonlaw23_OrdersPlays.p1 (k + 7) R0 x1 (.int .u64 (x : Int)) (.ptr id 0 8) (.ptr p 0 4) x9 s' ∧ InvP s' τ id n L d' f R' p v x1 A := by
  have hil := ids_le h.o.ok
  have hdl := h.o.dle
  unfold unisonlaw23_OrdersPlays.p15
  obtain ⟨x13, s1, k1, o1, e1⟩ := mids_run (n := n) (d := d) (f := f) h.l h.small (by omega) (by omega) (k + 1) (by omega) (by omega)
  rw [h.all, k1, bnd]
  have h1 := h.ext e1
  unfold unisonlaw23_OrdersPlays.p14
  obtain ⟨s2, R2, k2, o2, f2⟩ := deliver_run h1.o (by omega) (k + 4)
  rw [k2, bnd]
  simp only [aExtract, List.getElem?_cons_zero, List.getElem?_cons_succ]
  have r2 : s2.get p = .cells (mcells n v d f) false := (f2.get _ h1.lt h.tag).trans h1.row
  have lt2 : p < s2.next := Nat.lt_of_lt_of_le h1.lt f2.next
  have sub2 : Sub (vw τ p s1) (vw τ p s2) := vw_frT f2 (fun _ _ => rfl)
  have x2 : IsL icells 2 s2 x13 (idsOf L) := by
    rcases o1 with q | ⟨y, q1, q2, q3, q4⟩
    · exact .inl q
    · exact .inr ⟨y, false, q1, Nat.lt_of_lt_of_le q3 f2.next, (f2.get y q3 (h.o.fresh y q2)).trans q4⟩
  have e3 := Ext.push s2 (.cells [AV.int .u8 0, AV.int .u64 0] false)
  have g3 : (s2.push (.cells [AV.int .u8 0, AV.int .u64 0] false)).get s2.next = .cells [AV.int .u8 0, AV.int .u64 0] false := by rw [get_push, if_pos rfl]
  rw [new_s, show ([AV.int .u8 0, AV.int .u64 0] : List AV).length = 2 from rfl]
  generalize (s2.push (.cells [AV.int .u8 0, AV.int .u64 0] false)) = s3 at *
  rw [st_id g3 rfl]
  have e4 : Ext s2 (s3.set s2.next (.cells (icells (nid L d)) false)) := ⟨e3.next, fun q hq => by rw [get_set, if_neg (by omega)]; exact e3.get q hq⟩
  have g4 : (s3.set s2.next (.cells (icells (nid L d)) false)).get s2.next = .cells (icells (nid L d)) false := by rw [get_set, if_pos rfl]
  generalize (s3.set s2.next (.cells (icells (nid L d)) false)) = s4 at *
  have r4 : s4.get p = .cells (mcells n v d f) false := (e4.get _ lt2).trans r2
  have lt4 : p < s4.next := Nat.lt_of_lt_of_le lt2 e4.next
  have o4 := o2.ext e4
  have x4 := x2.ext e4
  have sub4 : Sub (vw τ p s) (vw τ p s4) := ((vw_ext e1).trans sub2).trans (vw_ext e4)
  have hlen4 : ∀ {α : Type} (g : AV → Option α), aLen x13 g = g (.int .i64 ((idsOf L).length : Nat)) := fun g => lenL x4 g
  have ld4 : ∀ {α : Type} (g : AV → Option α), aLoad1 (.ptr p (0 + 2) 4) s4 g = g (.int .i64 (d : Int)) := fun g => load_1 r4 rfl rfl
  have hb0 : ∀ {α : Type} (g : List AV → Option α), aBuild [] [AV.int .u8 0, AV.int .u64 0] g = g (icells (0, 0)) := fun g => rfl
  unfold unisonlaw23_OrdersPlays.p13
  by_cases hd : d < (idsOf L).length
  · have hdi : ((d : Nat) : Int) < ((idsOf L).length : Nat) := by omega
    obtain ⟨q, q1, q2⟩ := elemL ic_len x4 hd
    have lq : ∀ {α : Type} (g : AV → Option α), aLoadN 2 (.ptr s2.next 0 2) s4 g = g (.agg (icells (idsOf L)[d])) := fun g => by rw [ld_id g4, nid_at hd]
    rw [if_pos hd] at o4
    simp only [bnd, bnd, guard_tt, guard_ff, guard_tf, guard_ft, pick_t, pick_f, if_t, if_f, add_i, sub_i, lss_i, leq_i, gtr_i, geq_i, eql_i, neq_i, min_i, max_i, conv_i, len_sl, len_nil, not_b, cells_agg, new_s, fld_p, nil_p, ld4, hlen4, decide_eq_true hd, decide_eq_true hdi, eq_bool, Bool.not_true, Bool.not_false, lq, q1, q2, eq_ids, decide_true]
    unfold unisonlaw23_OrdersPlays.p12
    rw [if_f]
    unfold unisonlaw23_OrdersPlays.p11
    have hw1 : IntKind.i64.wrap ((d : Int) + 1) = ((d + 1 : Nat) : Int) := by rw [w_i64 (by omega) (by omega)]; omega
    have hs : (mcells n v d f).set 2 (.int .i64 ((d + 1 : Nat) : Int)) = mcells n v (d + 1) f := rfl
    simp only [bnd, guard_tt, guard_ff, guard_tf, guard_ft, pick_t, pick_f, if_t, if_f, add_i, sub_i, lss_i, leq_i, gtr_i, geq_i, eql_i, neq_i, min_i, max_i, conv_i, len_sl, len_nil, not_b, cells_agg, new_s, fld_p, nil_p, ld4, hw1, st1_m (j := 2) (w := .int .i64 ((d + 1 : Nat) : Int)) r4 rfl (by decide) (fun f => rfl), hs]
    have hi5 : InvP (s4.set p (.cells (mcells n v (d + 1) f) false)) τ id n L (d + 1) f R2 p v x1 A :=
      ⟨o4.keep (Nat.le_refl _) (fun r _ hr => by rw [get_set, if_neg (fun e => hr (by rw [e]; exact h.tag))]), by rw [get_set, if_pos rfl], lt4, h.tag, by rw [vw_set]; exact h.ll.sub sub4, by rw [vw_set]; exact h.acts.sub sub4, h.small⟩
    obtain ⟨s6, k6, e6⟩ := plays_checks (R0 := R0) hi5 hL x hx x9 k hk hk2
    exact ⟨s6, d + 1, R2, k6, hi5.ext e6⟩
  · have hdi : ¬ ((d : Nat) : Int) < ((idsOf L).length : Nat) := by omega
    have lq : ∀ {α : Type} (g : AV → Option α), aLoadN 2 (.ptr s2.next 0 2) s4 g = g (.agg (icells (0, 0))) := fun g => by rw [ld_id g4, nid_out hd]
    rw [if_neg hd] at o4
    simp only [bnd, bnd, guard_tt, guard_ff, guard_tf, guard_ft, pick_t, pick_f, if_t, if_f, add_i, sub_i, lss_i, leq_i, gtr_i, geq_i, eql_i, neq_i, min_i, max_i, conv_i, len_sl, len_nil, not_b, cells_agg, new_s, fld_p, nil_p, ld4, hlen4, decide_eq_false hd, decide_eq_false hdi, eq_bool, Bool.not_true, Bool.not_false, lq, hb0, eq_ids, decide_true]
    unfold unisonlaw23_OrdersPlays.p12
    rw [if_f]
    unfold unisonlaw23_OrdersPlays.p11
    rw [if_f]
    have hi5 : InvP s4 τ id n L d f R2 p v x1 A := ⟨o4, r4, lt4, h.tag, h.ll.sub sub4, h.acts.sub sub4, h.small⟩
    obtain ⟨s6, k6, e6⟩ := plays_checks (R0 := R0) hi5 hL x hx x9 k hk hk2
    exact ⟨s6, d, R2, k6, hi5.ext e6⟩
end
end Go.Proofs.Ytahiipfjhjeofaa.Sim
