/- Layer 13: the law GatherWhole, its run. No condition. -/
import Derived.Test.YtmkdpenpfkmfpaaB13V
namespace Go.Proofs.Ytmkdpenpfkmfpaa.Sim
set_option linter.unusedSimpArgs false
set_option linter.unusedVariables false
variable {s s' : Store} {gid : Nat} {g : GS} {pv : AV} {rr : List Nat}

/-- Whoever puts writes into his data. -/
theorem mut_loop {fx r n : Nat} {fc : List AV} {ro : Bool} (hfc : fc.length = 16) (h15 : fc[15]? = some (.sl r 0 n 1 n)) (hne : fx ≠ r) (k : Nat) (R0 : AV → AV → AV → AV → AV → AV → AV → AV → AV → Store → Option (AV × Store)) (x1 x3 x4 x9 x10 x11 x12 x13 x14 x15 x17 x18 : AV) (hn : n ≤ 1000000) : ∀ (m j : Nat) (s : Store) (d : List Int), d.length = n → j ≤ n → n - j < m → s.get fx = .cells fc ro → s.get r = .cells (d.map (.int .u8)) false → r < s.next →
    ∃ s', unisonlaw13_GatherWhole.l0 k R0 m x1 x3 x4 x9 x10 x11 x12 x13 x14 x15 (.ptr fx 0 16) x17 x18 (.int .i64 (j : Int)) s = unisonlaw13_GatherWhole.p5 k R0 x1 x3 x4 x9 x10 x11 x12 x13 x14 x15 x17 x18 s' ∧ Fr1 r s s'
  | 0, j, s, d, _, _, hm, _, _, _ => by omega
  | m + 1, j, s, d, hd, hj, hm, hf, hr, hl => by
    have hs : unisonlaw13_GatherWhole.l0 k R0 (m + 1) = fun x1 x3 x4 x9 x10 x11 x12 x13 x14 x15 x16 x17 x18 x19 s => unisonlaw13_GatherWhole.p8 k R0 (unisonlaw13_GatherWhole.l0 k R0 m) x1 x3 x4 x9 x10 x11 x12 x13 x14 x15 x16 x17 x18 x19 s := rfl
    rw [hs]
    clear hs
    simp only
    unfold unisonlaw13_GatherWhole.p8
    have ld : ∀ {α : Type} (c : AV → Option α), aLoad1 (.ptr fx (0 + 15) 16) s c = c (.sl r 0 n 1 n) := fun c => g_ld hf hfc h15 c
    by_cases hlt : j < n
    · unfold unisonlaw13_GatherWhole.p7 unisonlaw13_GatherWhole.p6
      have hix : ∀ {α : Type} (c : AV → Option α), aIndexSl 1 (.sl r 0 n 1 n) (.int .i64 (j : Int)) c = c (.ptr r (0 + j) n) := fun c => by
        rw [idxV (by omega) (by omega), Int.toNat_natCast]
      have hv : (d.map (AV.int .u8))[0 + j]? = some (.int .u8 (d.getD j 0)) := by
        rw [Nat.zero_add, List.getElem?_map, List.getD_eq_getElem?_getD, List.getElem?_eq_getElem (by omega)]
        first | done | rfl
      have ld2 : ∀ {α : Type} (c : AV → Option α), aLoad1 (.ptr r (0 + j) n) s c = c (.int .u8 (d.getD j 0)) := fun c => g_ld hr ((List.length_map ..).trans hd) hv c
      have hst := fun {α : Type} (y : Int) (c : Store → Option α) => g_st (ep := n) (j := 0 + j) (v := .int .u8 y) hr ((List.length_map ..).trans hd) (by omega) rfl c
      have hset : ∀ y : Int, (d.map (AV.int .u8)).set (0 + j) (.int .u8 y) = (d.set j y).map (.int .u8) := fun y => by rw [Nat.zero_add, List.map_set]
      have hw : IntKind.i64.wrap ((j : Int) + 1) = ((j + 1 : Nat) : Int) := by rw [w_i64 (by omega) (by omega)]; omega
      obtain ⟨s1, c1, c2⟩ := mut_loop hfc h15 hne k R0 x1 x3 x4 x9 x10 x11 x12 x13 x14 x15 x17 x18 hn m (j + 1) (s.set r (.cells ((d.set j (IntKind.u8.wrap (d.getD j 0 + 1))).map (.int .u8)) false)) (d.set j (IntKind.u8.wrap (d.getD j 0 + 1))) (by rw [List.length_set]; exact hd) (by omega) (by omega) (by rw [get_set, if_neg hne]; exact hf) (by rw [get_set, if_pos rfl]) hl
      simp only [bnd, guard_tt, guard_ff, guard_tf, guard_ft, pick_t, pick_f, if_t, if_f, add_i, sub_i, lss_i, leq_i, gtr_i, geq_i, eql_i, neq_i, min_i, max_i, conv_i, len_sl, len_nil, not_b, cells_agg, new_s, fld_p, nil_p, ld, decide_eq_true (show (j : Int) < (n : Int) by omega), hix, ld2, hst, hset, hw]
      exact ⟨s1, c1, (Fr1.set _ _ _).trans c2⟩
    · simp only [bnd, guard_tt, guard_ff, guard_tf, guard_ft, pick_t, pick_f, if_t, if_f, add_i, sub_i, lss_i, leq_i, gtr_i, geq_i, eql_i, neq_i, min_i, max_i, conv_i, len_sl, len_nil, not_b, cells_agg, new_s, fld_p, nil_p, ld, decide_eq_false (show ¬ (j : Int) < (n : Int) by omega)]
      exact ⟨s, rfl, Fr1.refl _ _⟩

/-- What the law keeps. -/
structure WhI (s0 s : Store) (gid : Nat) (g : GS) (pv : AV) (rr : List Nat) (hr : Nat) (id : Int × Int) (k : Nat) (p : List Int) (hs : List Bool) : Prop where
  ext : Ext s0 s
  isG : IsG s gid g pv rr
  far : ∀ x ∈ gid :: (rr ++ (g.L.map Part.rows).flatten), s0.next ≤ x ∧ x ≠ hr
  hrow : s.get hr = .cells (hs.map .bool) false
  hfar : s0.next ≤ hr ∧ hr < s.next
  st : (hs.count true = hs.length ∧ g.abs.L = []) ∨ (hs.count true < hs.length ∧ WI id k p hs g.abs)
theorem count_set {hs : List Bool} {i : Nat} (hi : i < hs.length) (h : hs.getD i false = false) : (hs.set i true).count true = hs.count true + 1 := by
  induction hs generalizing i with
  | nil => simp at hi
  | cons b l ih =>
    cases i with
    | zero =>
      have : b = false := by simpa using h
      subst this
      simp
    | succ i =>
      have := ih (i := i) (by simpa using hi) (by simpa using h)
      simp only [List.set_cons_succ, List.count_cons]
      omega
theorem WI.len1 {id : Int × Int} {k : Nat} {p : List Int} {hs : List Bool} (h : WI id k p hs g.abs) : g.L.length ≤ 1 := by
  have e : g.abs.L = g.L.map Part.abs := rfl
  rcases h.parts with ⟨_, q⟩ | ⟨q0, q, _⟩
  · have := congrArg List.length (e.symm.trans q); rw [List.length_map] at this; simp only [List.length_cons, List.length_nil] at this; omega
  · have := congrArg List.length (e.symm.trans q); rw [List.length_map] at this; simp only [List.length_cons, List.length_nil] at this; omega
theorem idxHas {hr n i : Nat} (hi : i < n) {α : Type} (c : AV → Option α) : aIndexSl 1 (.sl hr 0 n 1 n) (.int .i64 (i : Int)) c = c (.ptr hr (0 + i) n) := by rw [idxV (by omega) (by omega), Int.toNat_natCast]

theorem look_small {w : Int} (hw : w ≠ 5) (fu : Nat) (R0 : AV → AV → AV → AV → AV → AV → AV → AV → AV → Store → Option (AV × Store)) (x1 x3 x4 x9 x10 x11 x12 x13 : AV) {i : Nat} (hi : i ≤ 1000000) (s : Store) :
    unisonlaw13_GatherWhole.p2 fu R0 x1 x3 x4 x9 x10 x11 x12 x13 (.int .i64 (i : Int)) .nilsl (.int .u8 w) (.int .u8 w) s = R0 x1 x3 x4 x9 x10 x11 x12 x13 (.int .i64 ((i + 1 : Nat) : Int)) s := by
  unfold unisonlaw13_GatherWhole.p2 unisonlaw13_GatherWhole.p1
  have hwi : IntKind.i64.wrap ((i : Int) + 1) = ((i + 1 : Nat) : Int) := by rw [w_i64 (by omega) (by omega)]; omega
  have h1 : (w != w) = false := by simp
  have h2 : (w == 5) = false := by simpa using hw
  have h3 : (w != 5) = true := by simpa using hw
  simp only [bnd, guard_tt, guard_ff, guard_tf, guard_ft, pick_t, pick_f, if_t, if_f, add_i, sub_i, lss_i, leq_i, gtr_i, geq_i, eql_i, neq_i, min_i, max_i, conv_i, len_sl, len_nil, not_b, cells_agg, new_s, fld_p, nil_p, h1, h2, h3, guard_skip, hwi, decide_eq_false (show ¬ (0 : Int) > 0 by decide)]
theorem look_whole {x17 : AV} {p : List Int} (fu : Nat) (R0 : AV → AV → AV → AV → AV → AV → AV → AV → AV → Store → Option (AV × Store)) (x1 x3 x4 x9 x10 x11 x12 x13 : AV) {i : Nat} (hi : i ≤ 1000000) {s : Store} (h1 : IsV s x1 .u8 p) (h17 : IsV s x17 .u8 p) :
    unisonlaw13_GatherWhole.p2 fu R0 x1 x3 x4 x9 x10 x11 x12 x13 (.int .i64 (i : Int)) x17 (.int .u8 5) (.int .u8 5) s = R0 x1 x3 x4 x9 x10 x11 x12 x13 (.int .i64 ((i + 1 : Nat) : Int)) s := by
  unfold unisonlaw13_GatherWhole.p2 unisonlaw13_GatherWhole.p1
  have hwi : IntKind.i64.wrap ((i : Int) + 1) = ((i + 1 : Nat) : Int) := by rw [w_i64 (by omega) (by omega)]; omega
  have q1 : ((5 : Int) != 5) = false := rfl
  have q2 : ((5 : Int) == 5) = true := rfl
  simp only [bnd, guard_tt, guard_ff, guard_tf, guard_ft, pick_t, pick_f, if_t, if_f, add_i, sub_i, lss_i, leq_i, gtr_i, geq_i, eql_i, neq_i, min_i, max_i, conv_i, len_sl, len_nil, not_b, cells_agg, new_s, fld_p, nil_p, q1, q2, guard_skip, hwi, strV h17, strV h1, ne_str_same]

theorem whole_loop {s0 : Store} {x1 x3 : AV} {p os : List Int} {id : Int × Int} {idr hr k : Nat} (hp : IsV s0 x1 .u8 p) (ho : IsV s0 x3 .u16 os) (hol : os.length ≤ 200) (hob : ∀ x ∈ os, 0 ≤ x ∧ x < 65536) (hidr : s0.get idr = .cells [.int .u8 id.1, .int .u64 id.2] false) (hidl : idr < s0.next) (hid : idOk id = true) (hid1 : 0 ≤ id.1 ∧ id.1 < 256) (hk : 1 ≤ k ∧ k ≤ 65536) (hpl : p.length ≤ 300) (fu : Nat) (hfu : 16385 ≤ fu) : ∀ (m i : Nat) (s : Store) (g : GS) (pv : AV) (rr : List Nat) (hs : List Bool), hs.length = countQ p.length k → i ≤ os.length → os.length - i < m → WhI s0 s gid g pv rr hr id k p hs →
    ∃ s', unisonlaw13_GatherWhole.l1 (fu + 6) m x1 x3 (.ptr idr 0 2) (.int .i64 (k : Int)) (.int .i64 (hs.length : Nat)) (.ptr gid 0 12) (.sl hr 0 hs.length 1 hs.length) (.int .i64 ((hs.length - hs.count true : Nat) : Int)) (.int .i64 (i : Int)) s = some (.bool true, s')
  | 0, i, s, g, pv, rr, hs, _, _, hm, _ => by omega
  | m + 1, i, s, g, pv, rr, hs, hn, hi, hm, h => by
    have hsx : unisonlaw13_GatherWhole.l1 (fu + 6) (m + 1) = fun x1 x3 x4 x9 x10 x11 x12 x13 x14 s => unisonlaw13_GatherWhole.p13 (fu + 6) (unisonlaw13_GatherWhole.l1 (fu + 6) m) x1 x3 x4 x9 x10 x11 x12 x13 x14 s := rfl
    rw [hsx]
    clear hsx
    simp only
    unfold unisonlaw13_GatherWhole.p13
    have hw' : ∀ t, rn (fu + 6) 5 [] t = some (.bool true, t) := fun t => awake_rn (fu + 5) t
    have hcl := countQ_le (sz := p.length) hk.1
    have hcn : 1 ≤ hs.length := by rw [hn]; unfold countQ; omega
    have hcle : hs.count true ≤ hs.length := List.count_le_length
    rw [lenV ho]
    by_cases hlt : i < os.length
    rotate_left
    · unfold unisonlaw13_GatherWhole.p0
      simp only [bnd, guard_tt, guard_ff, guard_tf, guard_ft, pick_t, pick_f, if_t, if_f, add_i, sub_i, lss_i, leq_i, gtr_i, geq_i, eql_i, neq_i, min_i, max_i, conv_i, len_sl, len_nil, not_b, cells_agg, new_s, fld_p, nil_p, decide_eq_false (show ¬ (i : Int) < ((os.length : Nat) : Int) by omega), guard_skip]
      rcases h.st with ⟨q1, q2⟩ | ⟨q1, _⟩
      · have hL : g.L = [] := by have := congrArg List.length q2; simp [GS.abs] at this; exact this
        have hu := used_run h.isG (by rw [hL]; simp) (fu + 5) (by rw [hL]; simp)
        have hu' : rn (fu + 6) 10 [.ptr gid 0 12] s = some (.int .i64 (usedL g.L : Nat), s) := hu
        obtain ⟨v, s1, i1, i2, i3⟩ := ids_run h.isG (by rw [hL]; simp) (fu + 5) (by rw [hL]; simp)
        have i1' : rn (fu + 6) 14 [.ptr gid 0 12] s = some (v, s1) := i1
        have hlv := fun {α : Type} (c : AV → Option α) => lenL i2.is c
        have hz : ¬ (((hs.length - hs.count true : Nat) : Int) > 0) := by omega
        have u0 : (((usedL g.L : Nat) : Int) == 0) = true := by rw [hL]; rfl
        have u1 : ((((g.L.map (·.id)).length : Nat) : Int) == 0) = true := by rw [hL]; rfl
        simp only [decide_eq_false hz, bnd, guard_tt, guard_ff, guard_tf, guard_ft, pick_t, pick_f, if_t, if_f, add_i, sub_i, lss_i, leq_i, gtr_i, geq_i, eql_i, neq_i, min_i, max_i, conv_i, len_sl, len_nil, not_b, cells_agg, new_s, fld_p, nil_p, hu', u0, i1', hlv, u1, hw']
        exact ⟨_, rfl⟩
      · have hz : (((hs.length - hs.count true : Nat) : Int) > 0) := by omega
        simp only [decide_eq_true hz, bnd, guard_tt, guard_ff, guard_tf, guard_ft, pick_t, pick_f, if_t, if_f, add_i, sub_i, lss_i, leq_i, gtr_i, geq_i, eql_i, neq_i, min_i, max_i, conv_i, len_sl, len_nil, not_b, cells_agg, new_s, fld_p, nil_p, guard_skip, hw']
        exact ⟨_, rfl⟩
    simp only [bnd, guard_tt, guard_ff, guard_tf, guard_ft, pick_t, pick_f, if_t, if_f, add_i, sub_i, lss_i, leq_i, gtr_i, geq_i, eql_i, neq_i, min_i, max_i, conv_i, len_sl, len_nil, not_b, cells_agg, new_s, fld_p, nil_p, decide_eq_true (show (i : Int) < ((os.length : Nat) : Int) by omega)]
    rcases h.st with ⟨q1, q2⟩ | ⟨hlt2, hwi⟩
    · have hz : ¬ (((hs.length - hs.count true : Nat) : Int) > 0) := by omega
      unfold unisonlaw13_GatherWhole.p0
      have hL : g.L = [] := by have := congrArg List.length q2; simp [GS.abs] at this; exact this
      have hu := used_run h.isG (by rw [hL]; simp) (fu + 5) (by rw [hL]; simp)
      have hu' : rn (fu + 6) 10 [.ptr gid 0 12] s = some (.int .i64 (usedL g.L : Nat), s) := hu
      obtain ⟨v, s1, i1, i2, i3⟩ := ids_run h.isG (by rw [hL]; simp) (fu + 5) (by rw [hL]; simp)
      have i1' : rn (fu + 6) 14 [.ptr gid 0 12] s = some (v, s1) := i1
      have hlv := fun {α : Type} (c : AV → Option α) => lenL i2.is c
      have u0 : (((usedL g.L : Nat) : Int) == 0) = true := by rw [hL]; rfl
      have u1 : ((((g.L.map (·.id)).length : Nat) : Int) == 0) = true := by rw [hL]; rfl
      simp only [decide_eq_false hz, bnd, guard_tt, guard_ff, guard_tf, guard_ft, pick_t, pick_f, if_t, if_f, add_i, sub_i, lss_i, leq_i, gtr_i, geq_i, eql_i, neq_i, min_i, max_i, conv_i, len_sl, len_nil, not_b, cells_agg, new_s, fld_p, nil_p, hu', u0, i1', hlv, u1, hw']
      exact ⟨_, rfl⟩
    have hz : (((hs.length - hs.count true : Nat) : Int) > 0) := by omega
    simp only [decide_eq_true hz, bnd, guard_tt, guard_ff, guard_tf, guard_ft, pick_t, pick_f, if_t, if_f, add_i, sub_i, lss_i, leq_i, gtr_i, geq_i, eql_i, neq_i, min_i, max_i, conv_i, len_sl, len_nil, not_b, cells_agg, new_s, fld_p, nil_p]
    -- which chunk
    unfold unisonlaw13_GatherWhole.p12
    obtain ⟨pp, o1, o2⟩ := atV (ho.ext h.ext) (i := (i : Int)) (by omega) (by omega)
    rw [Int.toNat_natCast] at o2
    have hob1 : 0 ≤ os.getD i 0 ∧ os.getD i 0 < 65536 := by
      rw [List.getD_eq_getElem?_getD, List.getElem?_eq_getElem hlt]
      exact hob _ (List.getElem_mem hlt)
    generalize os.getD i 0 = o at o2 hob1
    have wo : IntKind.i64.wrap o = o := w_i64 (by omega) (by omega)
    have hrem : ∀ {α : Type} (c : AV → Option α), aBin .rem (.int .i64 o) (.int .i64 (hs.length : Nat)) c = c (.int .i64 (o % (hs.length : Nat))) := fun c => rem_i (by omega) (by omega) c
    obtain ⟨j, hj⟩ : ∃ j : Nat, o % (hs.length : Nat) = (j : Int) := ⟨(o % (hs.length : Nat)).toNat, by have := Int.emod_nonneg o (b := (hs.length : Nat)) (by omega); omega⟩
    have hjl : j < hs.length := by
      have := Int.emod_lt_of_pos o (b := (hs.length : Nat)) (by omega)
      omega
    simp only [bnd, guard_tt, guard_ff, guard_tf, guard_ft, pick_t, pick_f, if_t, if_f, add_i, sub_i, lss_i, leq_i, gtr_i, geq_i, eql_i, neq_i, min_i, max_i, conv_i, len_sl, len_nil, not_b, cells_agg, new_s, fld_p, nil_p, o1, o2, wo, hrem, hj]
    -- the frame
    unfold unisonlaw13_GatherWhole.p11
    have ldi : ∀ {α : Type} (c : AV → Option α), aLoadN 2 (.ptr idr 0 2) s c = c (.agg [.int .u8 id.1, .int .u64 id.2]) := fun {α} c => load_n ((h.ext.get _ hidl).trans hidr) rfl (by show 0 + 2 ≤ 2; decide)
    obtain ⟨r, s1, p1, p2, p3, p4, p5⟩ := piece_run (id := id) (hp.ext h.ext) (by omega) hk.1 hk.2 (i := j) (by omega) (fu + 4) (by omega)
    have p1' : rn (fu + 6) 13 [.agg [.int .u8 id.1, .int .u64 id.2], x1, .int .i64 (k : Int), .int .i64 (j : Int)] s = _ := p1
    obtain ⟨f, hf⟩ : ∃ f : Frm, f = frm1 id j (countQ p.length k : Nat) p.length (.sl r 0 (cutAt p k j).length 1 (cutAt p k j).length) := ⟨_, rfl⟩
    rw [← hf] at p1'
    obtain ⟨zs, hzs⟩ : ∃ zs : List AV, zs = [AV.int .u8 0, AV.int .u8 0, AV.int .u8 0, AV.int .u8 0, AV.int .u64 0, AV.int .u64 0, AV.int .u32 0, AV.int .u32 0, AV.int .u32 0, AV.int .u64 0, AV.int .u64 0, AV.nilsl, AV.nilsl, AV.nilsl, AV.nilsl, AV.nilsl] := ⟨_, rfl⟩
    have hzl : zs.length = 16 := by rw [hzs]; rfl
    have hst : ∀ {α : Type} (c : Store → Option α), aStore 16 (.ptr s1.next 0 16) (.agg f.cells) (s1.push (.cells zs false)) c = c ((s1.push (.cells zs false)).set s1.next (.cells f.cells false)) := fun c => st_all (by rw [get_push, if_pos rfl]) hzl rfl c
    simp only [bnd, guard_tt, guard_ff, guard_tf, guard_ft, pick_t, pick_f, if_t, if_f, add_i, sub_i, lss_i, leq_i, gtr_i, geq_i, eql_i, neq_i, min_i, max_i, conv_i, len_sl, len_nil, not_b, cells_agg, new_s, fld_p, nil_p, ldi, p1', ← hzs, hzl, hst]
    unfold unisonlaw13_GatherWhole.p10
    have e5 : Ext s1 ((s1.push (.cells zs false)).set s1.next (.cells f.cells false)) := ⟨Nat.le_succ _, fun l hl => by rw [get_set, if_neg (by omega), get_push, if_neg (by omega)]⟩
    have g5 : ((s1.push (.cells zs false)).set s1.next (.cells f.cells false)).get s1.next = .cells f.cells false := by rw [get_set, if_pos rfl]
    have n5 : ((s1.push (.cells zs false)).set s1.next (.cells f.cells false)).next = s1.next + 1 := rfl
    generalize (s1.push (.cells zs false)).set s1.next (.cells f.cells false) = s5 at e5 g5 n5 ⊢
    have ldf : ∀ {α : Type} (c : AV → Option α), aLoadN 16 (.ptr s1.next 0 16) s5 c = c (.agg f.cells) := fun c => load_n g5 rfl (by show 0 + 16 ≤ 16; decide)
    have es5 := p5.trans e5
    have hG5 := h.isG.ext es5
    have hrl := h.isG.rows_lt
    have hL1 := hwi.len1
    have hfat : f.at_ = (j : Int) := by rw [hf]; rfl
    have hfof : f.of = (hs.length : Nat) := by rw [hf, hn]; rfl
    have hfsz : f.size = (p.length : Nat) := by rw [hf]; rfl
    have hfid : f.id = id := by rw [hf]; rfl
    have hfdv : f.dv = .sl r 0 (cutAt p k j).length 1 (cutAt p k j).length := by rw [hf]; rfl
    have hwf : f.Wf := ⟨by omega, by omega, by omega⟩
    have hr5 : s5.get r = .cells ((cutAt p k j).map (.int .u8)) false := (e5.get r p4).trans p2
    have hd5 : IsV s5 f.dv .u8 (cutAt p k j) := .inr ⟨r, 0, cutAt p k j, false, hfdv, by omega, hr5, by simp, by simp⟩
    have hmo : g.most = 300 := hwi.most
    have hro : g.room = 300 := hwi.room
    obtain ⟨s6, v, g', pv', rr', made, c1, c2⟩ := put_run hG5 (by omega) hwf (by rw [hfid]; exact hid1) hd5 (fun a b c d e q q2 => by
      rw [hfdv] at q
      injection q with q
      have := hrl _ q2
      omega) ⟨by omega, by omega⟩ fu hfu (by omega)
    have he0 : ∀ {α : Type} (x y : AV) (c : AV → Option α), aExtract 0 (.tuple [x, y]) c = c x := fun x y c => rfl
    have he1 : ∀ {α : Type} (x y : AV) (c : AV → Option α), aExtract 1 (.tuple [x, y]) c = c y := fun x y c => rfl
    simp only [bnd, guard_tt, guard_ff, guard_tf, guard_ft, pick_t, pick_f, if_t, if_f, add_i, sub_i, lss_i, leq_i, gtr_i, geq_i, eql_i, neq_i, min_i, max_i, conv_i, len_sl, len_nil, not_b, cells_agg, new_s, fld_p, nil_p, ldf, c1, he0, he1]
    unfold unisonlaw13_GatherWhole.p9
    have hnot : ∀ x, s.next ≤ x → x ∉ gid :: (rr ++ (g.L.map Part.rows).flatten) := fun x hx q => by have := hrl _ q; omega
    have hf6 : s6.get s1.next = .cells f.cells false := (c2.fr.get _ (by omega) (hnot _ (by have := p5.next; omega))).trans g5
    have hr6 : s6.get r = .cells ((cutAt p k j).map (.int .u8)) false := (c2.fr.get _ (by omega) (hnot _ p3)).trans hr5
    have n6 := c2.fr.next
    have hcut := cutAt_len p k j
    obtain ⟨s7, m1, m2⟩ := mut_loop (fx := s1.next) (r := r) (n := (cutAt p k j).length) (fc := f.cells) (ro := false) rfl (by rw [← hfdv]; rfl) (by omega) (fu + 6) (unisonlaw13_GatherWhole.l1 (fu + 6) m) x1 x3 (.ptr idr 0 2) (.int .i64 (k : Int)) (.int .i64 (hs.length : Nat)) (.ptr gid 0 12) (.sl hr 0 hs.length 1 hs.length) (.int .i64 ((hs.length - hs.count true : Nat) : Int)) (.int .i64 (i : Int)) (.int .i64 (j : Int)) v (.int .u8 (made : Nat)) (by omega) (fu + 6) 0 s6 (cutAt p k j) rfl (Nat.zero_le _) (by omega) hf6 hr6 (by omega)
    have m1' := m1
    rw [Int.natCast_zero] at m1'
    rw [m1']
    clear m1 m1'
    -- what stands behind it
    have hfarn : ∀ x ∈ gid :: (rr' ++ (g'.L.map Part.rows).flatten), s0.next ≤ x ∧ x ≠ hr ∧ x ≠ r := by
      intro x hx
      have o9 : x ∈ gid :: (rr ++ (g.L.map Part.rows).flatten) ∨ s5.next ≤ x := by
        rcases List.mem_cons.1 hx with rfl | hx
        · exact .inl (by simp)
        · exact (c2.rows x hx).imp (fun q => List.mem_cons_of_mem _ q) (fun q => q)
      rcases o9 with q | q
      · have := h.far x q
        have := hrl x q
        exact ⟨this |> fun _ => (h.far x q).1, (h.far x q).2, by omega⟩
      · have := h.ext.next
        have := h.hfar
        have := p5.next
        exact ⟨by omega, by omega, by omega⟩
    have hG7 : IsG s7 gid g' pv' rr' := c2.isG.keep m2.next fun x hx => m2.get x (c2.isG.rows_lt x hx) (hfarn x hx).2.2
    have hhr7 : s7.get hr = .cells (hs.map .bool) false := by
      have h1 := h.hfar
      have h2 := p5.next
      rw [m2.get hr (by omega) (by omega), c2.fr.get hr (by omega) (fun q => (h.far hr q).2 rfl), es5.get hr (by omega)]
      exact h.hrow
    have e7 : Ext s0 s7 := by
      refine ⟨?_, fun l hl => ?_⟩
      · have := h.ext.next; have := es5.next; have := m2.next; omega
      · have h1 := h.ext.next
        have h2 := es5.next
        rw [m2.get l (by omega) (by omega), c2.fr.get l (by omega) (fun q => by have := (h.far l q).1; omega), es5.get l (by omega)]
        exact h.ext.get l hl
    have hl7 : s.next ≤ s7.next := by have := es5.next; have := m2.next; omega
    have hA := putA_one hwi hid hk hpl hn hjl hfat hfid hfof hfsz
    have hbool : (hs.map AV.bool).length = hs.length := List.length_map ..
    have ldh : ∀ {α : Type} (c : AV → Option α), aLoad1 (.ptr hr (0 + j) hs.length) s7 c = c (.bool (hs.getD j false)) := fun c => g_ld hhr7 hbool (by rw [Nat.zero_add, List.getElem?_map, List.getD_eq_getElem?_getD, List.getElem?_eq_getElem hjl]; rfl) c
    unfold unisonlaw13_GatherWhole.p5 unisonlaw13_GatherWhole.p4
    simp only [bnd, guard_tt, guard_ff, guard_tf, guard_ft, pick_t, pick_f, if_t, if_f, add_i, sub_i, lss_i, leq_i, gtr_i, geq_i, eql_i, neq_i, min_i, max_i, conv_i, len_sl, len_nil, not_b, cells_agg, new_s, fld_p, nil_p, idxHas hjl, ldh]
    cases hb : hs.getD j false
    rotate_left
    · -- it was there
      rw [hb, if_pos rfl] at hA
      have hm2 : made = 2 := by rw [c2.eqm, hA.1]
      have hv : v = .nilsl := (c2.out.1 (by omega)).1
      subst hm2
      subst hv
      have hlz : ((((hs.length - hs.count true : Nat) : Int)) == 0) = false := by simp; omega
      unfold unisonlaw13_GatherWhole.p3
      have hlook := look_small (w := 2) (by decide) (fu + 6) (unisonlaw13_GatherWhole.l1 (fu + 6) m) x1 x3 (.ptr idr 0 2) (.int .i64 (k : Int)) (.int .i64 (hs.length : Nat)) (.ptr gid 0 12) (.sl hr 0 hs.length 1 hs.length) (.int .i64 ((hs.length - hs.count true : Nat) : Int)) (i := i) (by omega) s7
      have h2c : ((2 : Nat) : Int) = 2 := rfl
      simp only [Bool.not_true, bnd, guard_tt, guard_ff, guard_tf, guard_ft, pick_t, pick_f, if_t, if_f, add_i, sub_i, lss_i, leq_i, gtr_i, geq_i, eql_i, neq_i, min_i, max_i, conv_i, len_sl, len_nil, not_b, cells_agg, new_s, fld_p, nil_p, hlz, h2c, hlook]
      refine whole_loop hp ho hol hob hidr hidl hid hid1 hk hpl fu hfu m (i + 1) s7 g' pv' rr' hs hn (by omega) (by omega) ⟨e7, hG7, fun x hx => ⟨(hfarn x hx).1, (hfarn x hx).2.1⟩, hhr7, ⟨h.hfar.1, by have := h.hfar; omega⟩, .inr ⟨hlt2, ?_⟩⟩
      rw [c2.abs]
      exact hA.2
    · -- it is new
      rw [hb, if_neg (by decide)] at hA
      have hcs := count_set hjl hb
      have hst8 : ∀ {α : Type} (c : Store → Option α), aStore 1 (.ptr hr (0 + j) hs.length) (.bool true) s7 c = c (s7.set hr (.cells ((hs.set j true).map .bool) false)) := fun c => by
        rw [g_st hhr7 hbool (by omega) rfl, Nat.zero_add, List.map_set]
      have hwl : IntKind.i64.wrap (((hs.length - hs.count true : Nat) : Int) - 1) = (((hs.set j true).length - (hs.set j true).count true : Nat) : Int) := by
        rw [w_i64 (by omega) (by omega), hcs, List.length_set]; omega
      have e8 : Ext s0 (s7.set hr (.cells ((hs.set j true).map .bool) false)) := ⟨e7.next, fun l hl => by rw [get_set, if_neg (by have := h.hfar; omega)]; exact e7.get l hl⟩
      have hG8 : IsG (s7.set hr (.cells ((hs.set j true).map .bool) false)) gid g' pv' rr' := hG7.keep (Nat.le_refl _) fun x hx => by rw [get_set, if_neg (hfarn x hx).2.1]
      have hhr8 : (s7.set hr (.cells ((hs.set j true).map .bool) false)).get hr = .cells ((hs.set j true).map .bool) false := by rw [get_set, if_pos rfl]
      have n8 : hr < (s7.set hr (.cells ((hs.set j true).map .bool) false)).next := by show hr < s7.next; have := h.hfar; omega
      have hlen' : (hs.set j true).length = hs.length := List.length_set ..
      simp only [Bool.not_false, bnd, guard_tt, guard_ff, guard_tf, guard_ft, pick_t, pick_f, if_t, if_f, add_i, sub_i, lss_i, leq_i, gtr_i, geq_i, eql_i, neq_i, min_i, max_i, conv_i, len_sl, len_nil, not_b, cells_agg, new_s, fld_p, nil_p, hst8, hwl]
      have fin : ∀ (hst : ((hs.set j true).count true = (hs.set j true).length ∧ g'.abs.L = []) ∨ ((hs.set j true).count true < (hs.set j true).length ∧ WI id k p (hs.set j true) g'.abs)), ∃ s', unisonlaw13_GatherWhole.l1 (fu + 6) m x1 x3 (.ptr idr 0 2) (.int .i64 (k : Int)) (.int .i64 (hs.length : Nat)) (.ptr gid 0 12) (.sl hr 0 hs.length 1 hs.length) (.int .i64 (((hs.set j true).length - (hs.set j true).count true : Nat) : Int)) (.int .i64 ((i + 1 : Nat) : Int)) (s7.set hr (.cells ((hs.set j true).map .bool) false)) = some (.bool true, s') := fun hst => by
        have := whole_loop hp ho hol hob hidr hidl hid hid1 hk hpl fu hfu m (i + 1) _ g' pv' rr' (hs.set j true) (by rw [hlen']; exact hn) (by omega) (by omega) ⟨e8, hG8, fun x hx => ⟨(hfarn x hx).1, (hfarn x hx).2.1⟩, hhr8, ⟨h.hfar.1, n8⟩, hst⟩
        simpa only [hlen'] using this
      unfold unisonlaw13_GatherWhole.p3
      by_cases hall : (hs.set j true).count true = hs.length
      · rw [if_pos hall] at hA
        have hm5 : made = 5 := by rw [c2.eqm, hA.1]
        subst hm5
        obtain ⟨ix, hv, hix, hrow⟩ := c2.out.2 rfl
        rw [hA.1] at hv hrow
        simp only at hv hrow
        have hixr : ix ≠ r ∧ ix ≠ hr := by
          have h1 := h.hfar
          have h2 := p5.next
          rcases c2.outr _ _ _ _ _ hv with q | q
          · have := hrl ix (List.mem_cons_of_mem _ q)
            have := (h.far ix (List.mem_cons_of_mem _ q)).2
            exact ⟨by omega, this⟩
          · exact ⟨by omega, by omega⟩
        have h17 : IsV (s7.set hr (.cells ((hs.set j true).map .bool) false)) v .u8 p := .inr ⟨ix, 0, p, false, hv, Nat.lt_of_lt_of_le hix m2.next, by rw [get_set, if_neg hixr.2, m2.get ix hix hixr.1]; exact hrow, by simp, by simp⟩
        have hlz : (((((hs.set j true).length - (hs.set j true).count true : Nat)) : Int) == 0) = true := by rw [hlen', hall]; simp
        have hlook := look_whole (fu + 6) (unisonlaw13_GatherWhole.l1 (fu + 6) m) x1 x3 (.ptr idr 0 2) (.int .i64 (k : Int)) (.int .i64 (hs.length : Nat)) (.ptr gid 0 12) (.sl hr 0 hs.length 1 hs.length) (.int .i64 (((hs.set j true).length - (hs.set j true).count true : Nat) : Int)) (i := i) (by omega) (hp.ext e8) h17
        have h5c : ((5 : Nat) : Int) = 5 := rfl
        simp only [bnd, guard_tt, guard_ff, guard_tf, guard_ft, pick_t, pick_f, if_t, if_f, add_i, sub_i, lss_i, leq_i, gtr_i, geq_i, eql_i, neq_i, min_i, max_i, conv_i, len_sl, len_nil, not_b, cells_agg, new_s, fld_p, nil_p, hlz, h5c, hlook]
        exact fin (.inl ⟨by rw [hlen']; exact hall, by rw [c2.abs]; exact hA.2⟩)
      · rw [if_neg hall] at hA
        have hm4 : made = 4 := by rw [c2.eqm, hA.1]
        have hv : v = .nilsl := (c2.out.1 (by omega)).1
        subst hm4
        subst hv
        have hlz : (((((hs.set j true).length - (hs.set j true).count true : Nat)) : Int) == 0) = false := by rw [hlen', hcs]; rw [hcs] at hall; simp; omega
        have hlook := look_small (w := 4) (by decide) (fu + 6) (unisonlaw13_GatherWhole.l1 (fu + 6) m) x1 x3 (.ptr idr 0 2) (.int .i64 (k : Int)) (.int .i64 (hs.length : Nat)) (.ptr gid 0 12) (.sl hr 0 hs.length 1 hs.length) (.int .i64 (((hs.set j true).length - (hs.set j true).count true : Nat) : Int)) (i := i) (by omega) (s7.set hr (.cells ((hs.set j true).map .bool) false))
        have h4c : ((4 : Nat) : Int) = 4 := rfl
        simp only [bnd, guard_tt, guard_ff, guard_tf, guard_ft, pick_t, pick_f, if_t, if_f, add_i, sub_i, lss_i, leq_i, gtr_i, geq_i, eql_i, neq_i, min_i, max_i, conv_i, len_sl, len_nil, not_b, cells_agg, new_s, fld_p, nil_p, hlz, h4c, hlook]
        exact fin (.inr ⟨by rw [hlen', hcs]; rw [hcs] at hall; omega, by rw [c2.abs]; exact hA.2⟩)

theorem flat_rep (n : Nat) : (List.replicate n [AV.bool false]).flatten = (List.replicate n false).map .bool := by simp [List.map_replicate]
theorem whole_run {s : Store} {x1 x3 : AV} {p os : List Int} {id : Int × Int} (hp : IsV s x1 .u8 p) (ho : IsV s x3 .u16 os) (hob : ∀ x ∈ os, 0 ≤ x ∧ x < 65536) (hid1 : 0 ≤ id.1 ∧ id.1 < 256) {by_ : Int} (hby : 0 ≤ by_ ∧ by_ < 256) (k : Nat) (hk : 16385 ≤ k) :
    ∃ s', rn (k + 7) 4 [.agg [.int .u8 id.1, .int .u64 id.2], x1, .int .u8 by_, x3] s = some (.bool true, s') := by
  rw [show k + 7 = (k + 6) + 1 from rfl, unisonlaw13_GatherWhole.eq]
  unfold unisonlaw13_GatherWhole.f unisonlaw13_GatherWhole.p21 unisonlaw13_GatherWhole.p20
  have hw' : ∀ t, rn (k + 6) 5 [] t = some (.bool true, t) := fun t => awake_rn (k + 5) t
  have e1 := Ext.push s (.cells [.int .u8 id.1, .int .u64 id.2] false)
  have g1 : (s.push (.cells [.int .u8 id.1, .int .u64 id.2] false)).get s.next = .cells [.int .u8 id.1, .int .u64 id.2] false := by rw [get_push, if_pos rfl]
  have n1 : s.next < (s.push (.cells [.int .u8 id.1, .int .u64 id.2] false)).next := Nat.lt_succ_self _
  have hl1 : [AV.int .u8 id.1, AV.int .u64 id.2].length = 2 := rfl
  simp only [cells_agg, new_s, hl1]
  generalize s.push (.cells [.int .u8 id.1, .int .u64 id.2] false) = s1 at e1 g1 n1 ⊢
  rw [lenV hp]
  by_cases h1 : ((p.length : Nat) : Int) > 300
  · simp only [bnd, guard_tt, guard_ff, guard_tf, guard_ft, pick_t, pick_f, if_t, if_f, add_i, sub_i, lss_i, leq_i, gtr_i, geq_i, eql_i, neq_i, min_i, max_i, conv_i, len_sl, len_nil, not_b, cells_agg, new_s, fld_p, nil_p, decide_eq_true h1, guard_skip, hw']
    exact ⟨_, rfl⟩
  simp only [bnd, guard_tt, guard_ff, guard_tf, guard_ft, pick_t, pick_f, if_t, if_f, add_i, sub_i, lss_i, leq_i, gtr_i, geq_i, eql_i, neq_i, min_i, max_i, conv_i, len_sl, len_nil, not_b, cells_agg, new_s, fld_p, nil_p, decide_eq_false h1, lenV ho]
  by_cases h2 : ((os.length : Nat) : Int) > 200
  · simp only [bnd, guard_tt, guard_ff, guard_tf, guard_ft, pick_t, pick_f, if_t, if_f, add_i, sub_i, lss_i, leq_i, gtr_i, geq_i, eql_i, neq_i, min_i, max_i, conv_i, len_sl, len_nil, not_b, cells_agg, new_s, fld_p, nil_p, decide_eq_true h2, guard_skip, hw']
    exact ⟨_, rfl⟩
  have ldi : ∀ {α : Type} (c : AV → Option α), aLoadN 2 (.ptr s.next 0 2) s1 c = c (.agg [.int .u8 id.1, .int .u64 id.2]) := fun {α} c => load_n g1 rfl (by show 0 + 2 ≤ 2; decide)
  obtain ⟨s2, m1, m2⟩ := may3_run id hid1 (k + 5) s1
  have m1' : rn (k + 6) 11 [.agg [.int .u8 id.1, .int .u64 id.2], .int .i64 64] s1 = some (.bool (idOk id), s2) := m1
  simp only [bnd, guard_tt, guard_ff, guard_tf, guard_ft, pick_t, pick_f, if_t, if_f, add_i, sub_i, lss_i, leq_i, gtr_i, geq_i, eql_i, neq_i, min_i, max_i, conv_i, len_sl, len_nil, not_b, cells_agg, new_s, fld_p, nil_p, decide_eq_false h2, ldi, m1']
  cases hok : idOk id
  · simp only [bnd, guard_tt, guard_ff, guard_tf, guard_ft, pick_t, pick_f, if_t, if_f, add_i, sub_i, lss_i, leq_i, gtr_i, geq_i, eql_i, neq_i, min_i, max_i, conv_i, len_sl, len_nil, not_b, cells_agg, new_s, fld_p, nil_p, Bool.not_false, hw']
    exact ⟨_, rfl⟩
  simp only [bnd, guard_tt, guard_ff, guard_tf, guard_ft, pick_t, pick_f, if_t, if_f, add_i, sub_i, lss_i, leq_i, gtr_i, geq_i, eql_i, neq_i, min_i, max_i, conv_i, len_sl, len_nil, not_b, cells_agg, new_s, fld_p, nil_p, Bool.not_true]
  have e2 := e1.trans m2
  unfold unisonlaw13_GatherWhole.p19 unisonlaw13_GatherWhole.p18 unisonlaw13_GatherWhole.p17 unisonlaw13_GatherWhole.p16 unisonlaw13_GatherWhole.p15 unisonlaw13_GatherWhole.p14
  obtain ⟨kk, hkk⟩ : ∃ kk : Nat, 1 + by_ = (kk : Int) := ⟨(1 + by_).toNat, by omega⟩
  have w1 : IntKind.i64.wrap by_ = by_ := w_i64 (by omega) (by omega)
  have w2 : IntKind.i64.wrap (1 + by_) = (kk : Int) := by rw [w_i64 (by omega) (by omega), hkk]
  have hc := count12_run (sz := p.length) (k := kk) (by omega) (by omega) (by omega) (k + 5) (by omega) s2
  have hc' : rn (k + 6) 12 [.int .i64 (p.length : Nat), .int .i64 (kk : Int)] s2 = _ := hc
  obtain ⟨s3, n2, n3, n4⟩ := gnew_run kk 300 300 (k + 5) s2
  have n2' : rn (k + 6) 6 [.int .i64 (kk : Int), .int .i64 300, .int .i64 300] s2 = _ := n2
  have hcl := countQ_le (sz := p.length) (k := kk) (by omega)
  have hcq : 1 ≤ countQ p.length kk := by unfold countQ; omega
  have hmk : ∀ {α : Type} (c : AV → Store → Option α), aMakeSlice [AV.bool false] 1 1 (.int .i64 (countQ p.length kk : Nat)) (.int .i64 (countQ p.length kk : Nat)) s3 c = c (.sl s3.next 0 (countQ p.length kk) 1 (countQ p.length kk)) (s3.push (.cells ((List.replicate (countQ p.length kk) false).map .bool) false)) := fun c => by
    simp only [aMakeSlice]
    rw [if_pos ⟨by omega, by omega, by omega, by omega⟩, Int.toNat_natCast, Nat.mul_one, flat_rep]
  simp only [bnd, guard_tt, guard_ff, guard_tf, guard_ft, pick_t, pick_f, if_t, if_f, add_i, sub_i, lss_i, leq_i, gtr_i, geq_i, eql_i, neq_i, min_i, max_i, conv_i, len_sl, len_nil, not_b, cells_agg, new_s, fld_p, nil_p, w1, w2, lenV hp, hc', n2', hmk]
  have e3 := e2.trans n4
  have e4 := Ext.push s3 (.cells ((List.replicate (countQ p.length kk) false).map .bool) false)
  have g4 : (s3.push (.cells ((List.replicate (countQ p.length kk) false).map .bool) false)).get s3.next = .cells ((List.replicate (countQ p.length kk) false).map .bool) false := by rw [get_push, if_pos rfl]
  have n4' : (s3.push (.cells ((List.replicate (countQ p.length kk) false).map .bool) false)).next = s3.next + 1 := rfl
  generalize s3.push (.cells ((List.replicate (countQ p.length kk) false).map .bool) false) = s4 at e4 g4 n4' ⊢
  have hcnt : (List.replicate (countQ p.length kk) false).count true = 0 := List.count_eq_zero.2 (by simp)
  have hG3 := n3.lt
  have hlr : (List.replicate (countQ p.length kk) false).length = countQ p.length kk := List.length_replicate ..
  have hinv : WhI s2 s4 s2.next (gnew kk 300 300) .nilsl [] s3.next id kk p (List.replicate (countQ p.length kk) false) := by
    refine ⟨n4.trans e4, n3.ext e4, fun x hx => ?_, g4, ⟨n4.next, by omega⟩, .inr ⟨by rw [hcnt, hlr]; omega, ?_⟩⟩
    · have : x = s2.next := by simpa [gnew] using hx
      omega
    · refine ⟨?_, rfl, rfl, .inl ⟨by rw [hlr], rfl⟩⟩
      show max 1 (min (kk : Int) 65536) = _
      omega
  have := whole_loop (gid := s2.next) (hp.ext e2) (ho.ext e2) (by omega) hob ((m2.get _ n1).trans g1) (Nat.lt_of_lt_of_le n1 m2.next) hok hid1 (k := kk) ⟨by omega, by omega⟩ (by omega) k hk (k + 6) 0 s4 _ _ _ _ hlr (Nat.zero_le _) (by omega) hinv
  rw [hlr, hcnt] at this
  exact this
end Go.Proofs.Ytmkdpenpfkmfpaa.Sim
