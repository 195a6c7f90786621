/- Layer 23: the law OrdersSame, its run. No condition. -/
import Derived.Test.YtahiipfjhjeofaaB23I
import Derived.Test.YtahiipfjhjeofaaFunSame
namespace Go.Proofs.Ytahiipfjhjeofaa.Sim
set_option linter.unusedSimpArgs false
set_option linter.unusedVariables false

/-- The rows of which something holds. -/
noncomputable def vz (Z : Nat → Prop) (s : Store) : Store := open Classical in ⟨s.next, fun r => if Z r then s.get r else .none⟩
section
variable {Z Z' : Nat → Prop} {s s' : Store}
theorem vz_get {r : Nat} (h : Z r) : (vz Z s).get r = s.get r := by unfold vz; simp [h]
theorem vz_sub : Sub (vz Z s) s := ⟨Nat.le_refl _, fun l hl hn => by
  by_cases h : Z l
  · exact (vz_get h).symm
  · exact absurd (by unfold vz; simp [h]) hn⟩
theorem vz_to (hn : s.next ≤ s'.next) (h : ∀ r, r < s.next → Z r → Z' r ∧ s'.get r = s.get r) : Sub (vz Z s) (vz Z' s') := ⟨hn, fun l hl hne => by
  by_cases hz : Z l
  · obtain ⟨h1, h2⟩ := h l hl hz
    rw [vz_get h1, vz_get hz, h2]
  · exact absurd (by unfold vz; simp [hz]) hne⟩
theorem vz_tag {w : AV} {l : List Rn} (h : IsRuns (vz Z s) w l) : ∀ a b c e g, w = .sl a b c e g → Z a := by
  intro a b c e g hw
  rcases h with ⟨q, _⟩ | ⟨x, ro, q1, q2, q3⟩
  · rw [q] at hw; cases hw
  · rw [q1] at hw
    cases hw
    by_cases hz : Z a
    · exact hz
    · exact absurd q3 (by unfold vz; simp [hz])
end
theorem IsLL.at' {s0 s : Store} {v : AV} {L : List (List Rn)} (h : IsLL s0 v L) (e : Sub s0 s) {i : Nat} (hi : i < L.length) : ∃ p w, (∀ {α : Type} (k : IntKind) (f : AV → Option α), aIndexSl 1 v (.int k (i : Int)) f = f p) ∧ (∀ {s' : Store}, Sub s0 s' → ∀ {α : Type} (f : AV → Option α), aLoad1 p s' f = f w) ∧ IsRuns s0 w L[i] := by
  obtain ⟨vs, h1, h2, h3⟩ := h
  have hi' : i < vs.length := by omega
  rcases h1 with ⟨_, rfl⟩ | ⟨id, ro, rfl, h5, h4⟩
  · simp at hi'
  · refine ⟨.ptr id (0 + i * 1) (vs.length * 1), vs[i], fun k f => idxL hi' f, fun {s'} e' {α} f => ?_, h3 i hi' hi⟩
    have h6 : s'.get id = .cells (vs.map fun v => [v]).flatten ro := (e'.get id h5 (by rw [h4]; simp)).trans h4
    exact fldL (c := fun v => [v]) (es := 1) one_len h6 hi' (j := 0) (v := vs[i]) rfl f
theorem id_row (s : Store) {r : Nat} {l : List Idn} (h : s.get r = .cells (l.map icells).flatten false) (hr : r < s.next) (x : Idn) (hl : l.length ≤ 1000000) {α : Type} (f : AV → Store → Option α) :
    aAppend 2 16 (.sl r 0 l.length 2 (l.length * 2)) (.sl s.next 0 1 2 2) (s.push (.cells (icells x) false)) f = f (.sl r 0 (l ++ [x]).length 2 ((l ++ [x]).length * 2)) ((s.push (.cells (icells x) false)).set r (.cells ((l ++ [x]).map icells).flatten false)) := by
  have h1 : (s.push (.cells (icells x) false)).get r = .cells (l.map icells).flatten false := by rw [get_push, if_neg (by omega)]; exact h
  have h2 : (s.push (.cells (icells x) false)).get s.next = .cells (icells x) false := by rw [get_push, if_pos rfl]
  have h3 : (l.length + 1) * 16 ≤ 140737488355328 := by omega
  have h4 := flatL_len ic_len l
  have h5 : (icells x).length = 2 := rfl
  simp [aAppend, aCellsOf, aRow, h2, aOwn, h1, h3, h4, h5, Nat.add_mul, List.take_of_length_le]
  intro hh; omega

abbrev ZS (τ τ' : Nat → Nat) (rx ry : Nat) : Nat → Prop := fun r => τ r = 0 ∧ τ' r = 0 ∧ r ≠ rx ∧ r ≠ ry
structure InvS (s : Store) (τ τ' : Nat → Nat) (ido idp n : Nat) (L : List (List Rn)) (d f d' : Nat) (R R' : ORows) (rx ry : Nat) (x1 : AV) (LL : List (List Rn)) : Prop where
  o : IsO s τ ido n L d f R
  p : IsO s τ' idp n L d' 0 R'
  dis : ∀ r, τ r = 0 ∨ τ' r = 0
  rowx : s.get rx = .cells (((idsOf L).take d).map icells).flatten false
  rowy : s.get ry = .cells (((idsOf L).take d').map icells).flatten false
  ltx : rx < s.next
  lty : ry < s.next
  tx : τ rx = 0 ∧ τ' rx = 0
  ty : τ ry = 0 ∧ τ' ry = 0
  ne : rx ≠ ry
  args : IsLL (vz (ZS τ τ' rx ry) s) x1 LL
abbrev vx (rx : Nat) (L : List (List Rn)) (d : Nat) : AV := .sl rx 0 ((idsOf L).take d).length 2 (((idsOf L).take d).length * 2)
section
variable {s : Store} {τ τ' : Nat → Nat} {ido idp n d f d' rx ry : Nat} {L LL : List (List Rn)} {R R' : ORows} {x1 : AV}
theorem InvS.ext {s' : Store} (h : InvS s τ τ' ido idp n L d f d' R R' rx ry x1 LL) (e : Ext s s') : InvS s' τ τ' ido idp n L d f d' R R' rx ry x1 LL :=
  ⟨h.o.ext e, h.p.ext e, h.dis, (e.get _ h.ltx).trans h.rowx, (e.get _ h.lty).trans h.rowy, Nat.lt_of_lt_of_le h.ltx e.next, Nat.lt_of_lt_of_le h.lty e.next, h.tx, h.ty, h.ne, h.args.sub (vz_to e.next fun r hr hz => ⟨hz, e.get r hr⟩)⟩
/-- Something happened to the first one alone. -/
theorem InvS.first {s' : Store} {τ2 : Nat → Nat} {L2 : List (List Rn)} {f2 : Nat} {R2 : ORows} (h : InvS s τ τ' ido idp n L d f d' R R' rx ry x1 LL) (o : IsO s' τ2 ido n L d f2 R2) (fr : FrT τ s s') (ht : ∀ r, r < s.next → τ2 r = τ r) : InvS s' τ2 τ' ido idp n L d f2 d' R2 R' rx ry x1 LL := by
  have sm : ∀ r, r < s.next → τ r = 0 → s'.get r = s.get r := fr.get
  refine ⟨o, h.p.keep fr.next (fun r hr h0 => sm r hr ((h.dis r).resolve_right h0)), fun r => ?_, (sm _ h.ltx h.tx.1).trans h.rowx, (sm _ h.lty h.ty.1).trans h.rowy, Nat.lt_of_lt_of_le h.ltx fr.next, Nat.lt_of_lt_of_le h.lty fr.next, ⟨(ht _ h.ltx).trans h.tx.1, h.tx.2⟩, ⟨(ht _ h.lty).trans h.ty.1, h.ty.2⟩, h.ne,
    h.args.sub (vz_to fr.next fun r hr hz => ⟨⟨(ht r hr).trans hz.1, hz.2⟩, sm r hr hz.1⟩)⟩
  by_cases hr : r < s.next
  · rw [ht r hr]; exact h.dis r
  · exact .inr (h.p.fresh r (by omega))

theorem take_next {d : Nat} (h : d < (idsOf L).length) : (idsOf L).take d ++ [nid L d] = (idsOf L).take (d + 1) := by rw [nid_at h, List.take_succ_eq_append_getElem h]
/-- The first one delivers, and what it delivers is noted. -/
theorem InvS.notex (h : InvS s τ τ' ido idp n L d f d' R R' rx ry x1 LL) {s' : Store} {R2 : ORows} (hd : d < (idsOf L).length) (o : IsO s' τ ido n L (d + 1) f R2) (fr : FrT τ s s') {s2 : Store} (e : Ext s' s2) :
    InvS (s2.set rx (.cells (((idsOf L).take (d + 1)).map icells).flatten false)) τ τ' ido idp n L (d + 1) f d' R2 R' rx ry x1 LL := by
  have sm : ∀ r, r < s.next → τ r = 0 → s2.get r = s.get r := fun r hr h0 => (e.get r (Nat.lt_of_lt_of_le hr fr.next)).trans (fr.get r hr h0)
  have hn : s.next ≤ s2.next := Nat.le_trans fr.next e.next
  refine ⟨(o.ext e).keep (Nat.le_refl _) (fun r _ h0 => by rw [get_set, if_neg (fun e => h0 (by rw [e]; exact h.tx.1))]), h.p.keep hn (fun r hr h0 => by rw [get_set, if_neg (fun e => h0 (by rw [e]; exact h.tx.2))]; exact sm r hr ((h.dis r).resolve_right h0)), h.dis, by rw [get_set, if_pos rfl], by rw [get_set, if_neg h.ne.symm]; exact (sm _ h.lty h.ty.1).trans h.rowy, Nat.lt_of_lt_of_le h.ltx hn, Nat.lt_of_lt_of_le h.lty hn, h.tx, h.ty, h.ne,
    h.args.sub (vz_to hn fun r hr hz => ⟨hz, by rw [get_set, if_neg hz.2.2.1]; exact sm r hr hz.1⟩)⟩
theorem InvS.notey (h : InvS s τ τ' ido idp n L d f d' R R' rx ry x1 LL) {s' : Store} {R2 : ORows} (hd : d' < (idsOf L).length) (o : IsO s' τ' idp n L (d' + 1) 0 R2) (fr : FrT τ' s s') {s2 : Store} (e : Ext s' s2) :
    InvS (s2.set ry (.cells (((idsOf L).take (d' + 1)).map icells).flatten false)) τ τ' ido idp n L d f (d' + 1) R R2 rx ry x1 LL := by
  have sm : ∀ r, r < s.next → τ' r = 0 → s2.get r = s.get r := fun r hr h0 => (e.get r (Nat.lt_of_lt_of_le hr fr.next)).trans (fr.get r hr h0)
  have hn : s.next ≤ s2.next := Nat.le_trans fr.next e.next
  refine ⟨h.o.keep hn (fun r hr h0 => by rw [get_set, if_neg (fun e => h0 (by rw [e]; exact h.ty.1))]; exact sm r hr ((h.dis r).resolve_left h0)), (o.ext e).keep (Nat.le_refl _) (fun r _ h0 => by rw [get_set, if_neg (fun e => h0 (by rw [e]; exact h.ty.2))]), h.dis, by rw [get_set, if_neg h.ne]; exact (sm _ h.ltx h.tx.2).trans h.rowx, by rw [get_set, if_pos rfl], Nat.lt_of_lt_of_le h.ltx hn, Nat.lt_of_lt_of_le h.lty hn, h.tx, h.ty, h.ne,
    h.args.sub (vz_to hn fun r hr hz => ⟨hz, by rw [get_set, if_neg hz.2.2.2]; exact sm r hr hz.2.1⟩)⟩
/-- Nothing is delivered, but rows may be new. -/
theorem InvS.firstD (h : InvS s τ τ' ido idp n L d f d' R R' rx ry x1 LL) {s' : Store} {R2 : ORows} (o : IsO s' τ ido n L d f R2) (fr : FrT τ s s') : InvS s' τ τ' ido idp n L d f d' R2 R' rx ry x1 LL := h.first (L2 := L) o fr (fun _ _ => rfl)
theorem InvS.secondD (h : InvS s τ τ' ido idp n L d f d' R R' rx ry x1 LL) {s' : Store} {R2 : ORows} (o : IsO s' τ' idp n L d' 0 R2) (fr : FrT τ' s s') : InvS s' τ τ' ido idp n L d f d' R R2 rx ry x1 LL :=
  ⟨h.o.keep fr.next (fun r hr h0 => fr.get r hr ((h.dis r).resolve_left h0)), o, h.dis, (fr.get _ h.ltx h.tx.2).trans h.rowx, (fr.get _ h.lty h.ty.2).trans h.rowy, Nat.lt_of_lt_of_le h.ltx fr.next, Nat.lt_of_lt_of_le h.lty fr.next, h.tx, h.ty, h.ne, h.args.sub (vz_to fr.next fun r hr hz => ⟨hz, fr.get r hr hz.2.1⟩)⟩

/-! ### the end -/
theorem same_end (k : Nat) (hk : 1000000 ≤ k) (hL : L.length ≤ 30) (h : InvS s τ τ' ido idp n L d f d' R R' rx ry x1 LL) : ∃ s', unisonlaw23_OrdersSame.p0 (k + 7) (.ptr ido 0 8) (.ptr idp 0 8) (vx rx L d) (vx ry L d') s = some (.bool true, s') := by
  unfold unisonlaw23_OrdersSame.p0
  have hil := ids_le h.o.ok
  have h1 := h.o.dle
  have h2 := h.p.dle
  have a1 := owaits_run h.o (k + 6)
  have a2 := owaits_run h.p (k + 6)
  have aw := awake_rn (k + 6) s
  have e1 : ∀ y, y ≤ (idsOf L).length → IntKind.i64.wrap ((((idsOf L).length - y : Nat) : Int) + (((idsOf L).take y).length : Nat)) = ((idsOf L).length : Int) := fun y hy => by rw [List.length_take, w_i64 (by omega) (by omega)]; omega
  simp only [a1, bnd, bnd, guard_tt, guard_ff, guard_tf, guard_ft, pick_t, pick_f, if_t, if_f, add_i, sub_i, lss_i, leq_i, gtr_i, geq_i, eql_i, neq_i, min_i, max_i, conv_i, len_sl, len_nil, not_b, cells_agg, new_s, fld_p, nil_p, e1 d h1, a2, e1 d' h2, beq_self_eq_true, aw]
  exact ⟨_, rfl⟩
theorem same_cmp (k : Nat) (hk : 1000000 ≤ k) (hL : L.length ≤ 30) (h : InvS s τ τ' ido idp n L d f d' R R' rx ry x1 LL) : ∀ (g i : Nat), i ≤ d → d - i < g → ∃ s', unisonlaw23_OrdersSame.l0 (k + 7) g (.ptr ido 0 8) (.ptr idp 0 8) (vx rx L d) (vx ry L d') (.int .i64 (i : Int)) s = some (.bool true, s')
  | 0, i, hi, hg => by omega
  | g + 1, i, hi, hg => by
    have hs : unisonlaw23_OrdersSame.l0 (k + 7) (g + 1) = fun x11 x12 x13 x14 x22 s => unisonlaw23_OrdersSame.p4 (k + 7) (unisonlaw23_OrdersSame.l0 (k + 7) g) x11 x12 x13 x14 x22 s := rfl
    rw [hs]
    clear hs
    simp only
    unfold unisonlaw23_OrdersSame.p4
    have hil := ids_le h.o.ok
    have h1 := h.o.dle
    have h2 := h.p.dle
    have l1 : ((idsOf L).take d).length = d := by rw [List.length_take]; omega
    have l2 : ((idsOf L).take d').length = d' := by rw [List.length_take]; omega
    by_cases c1 : (i : Int) < (((idsOf L).take d).length : Nat)
    · by_cases c2 : (i : Int) < (((idsOf L).take d').length : Nat)
      · simp only [bnd, guard_tt, guard_ff, guard_tf, guard_ft, pick_t, pick_f, if_t, if_f, add_i, sub_i, lss_i, leq_i, gtr_i, geq_i, eql_i, neq_i, min_i, max_i, conv_i, len_sl, len_nil, not_b, cells_agg, new_s, fld_p, nil_p, decide_eq_true c1, decide_eq_true c2]
        unfold unisonlaw23_OrdersSame.p3
        have i1 : i < ((idsOf L).take d).length := by omega
        have i2 : i < ((idsOf L).take d').length := by omega
        have x1 : ∀ {α : Type} (f : AV → Option α), aIndexSl 2 (vx rx L d) (.int .i64 (i : Int)) f = f (.ptr rx (0 + i * 2) (((idsOf L).take d).length * 2)) := fun f => idxL i1 f
        have x2 : ∀ {α : Type} (f : AV → Option α), aIndexSl 2 (vx ry L d') (.int .i64 (i : Int)) f = f (.ptr ry (0 + i * 2) (((idsOf L).take d').length * 2)) := fun f => idxL i2 f
        have y1 : ∀ {α : Type} (f : AV → Option α), aLoadN 2 (.ptr rx (0 + i * 2) (((idsOf L).take d).length * 2)) s f = f (.agg (icells (idsOf L)[i])) := fun f => by
          have := loadL ic_len h.rowx i i1 f
          rw [this, List.getElem_take]
        have y2 : ∀ {α : Type} (f : AV → Option α), aLoadN 2 (.ptr ry (0 + i * 2) (((idsOf L).take d').length * 2)) s f = f (.agg (icells (idsOf L)[i])) := fun f => by
          have := loadL ic_len h.rowy i i2 f
          rw [this, List.getElem_take]
        have hw1 : IntKind.i64.wrap ((i : Int) + 1) = ((i + 1 : Nat) : Int) := by rw [w_i64 (by omega) (by omega)]; omega
        simp only [bnd, x1, y1, x2, y2, eq_ids, decide_true, Bool.not_true]
        unfold unisonlaw23_OrdersSame.p2 unisonlaw23_OrdersSame.p1
        rw [if_f, add_i, hw1]
        exact same_cmp k hk hL h g (i + 1) (by omega) (by omega)
      · simp only [bnd, guard_tt, guard_ff, guard_tf, guard_ft, pick_t, pick_f, if_t, if_f, add_i, sub_i, lss_i, leq_i, gtr_i, geq_i, eql_i, neq_i, min_i, max_i, conv_i, len_sl, len_nil, not_b, cells_agg, new_s, fld_p, nil_p, decide_eq_true c1, decide_eq_false c2]
        exact same_end k hk hL h
    · simp only [bnd, guard_tt, guard_ff, guard_tf, guard_ft, pick_t, pick_f, if_t, if_f, add_i, sub_i, lss_i, leq_i, gtr_i, geq_i, eql_i, neq_i, min_i, max_i, conv_i, len_sl, len_nil, not_b, cells_agg, new_s, fld_p, nil_p, decide_eq_false c1]
      exact same_end k hk hL h

theorem same_rest (k : Nat) (hk : 1000000 ≤ k) (hk2 : k ≤ 2000000) (hL : L.length ≤ 30) {b : Nat} (hb : b < 65536) : ∀ (g c : Nat) (s : Store) (d' : Nat) (R' : ORows), InvS s τ τ' ido idp n L d f d' R R' rx ry x1 LL → c ≤ b → b - c < g →
    ∃ s', unisonlaw23_OrdersSame.l1 (k + 7) g (.int .u16 (b : Int)) (.ptr ido 0 8) (.ptr idp 0 8) (vx rx L d) (vx ry L d') (.int .i64 (c : Int)) s = some (.bool true, s')
  | 0, c, _, _, _, _, hc, hg => by omega
  | g + 1, c, s, d', R', h, hc, hg => by
    have hs : unisonlaw23_OrdersSame.l1 (k + 7) (g + 1) = fun x3 x11 x12 x13 x14 x19 s => unisonlaw23_OrdersSame.p8 (k + 7) (unisonlaw23_OrdersSame.l1 (k + 7) g) x3 x11 x12 x13 x14 x19 s := rfl
    rw [hs]
    clear hs
    simp only
    unfold unisonlaw23_OrdersSame.p8
    have hil := ids_le h.o.ok
    have h1 := h.o.dle
    have h2 := h.p.dle
    have fin : ∀ {s : Store} {d' : Nat} {R' : ORows}, InvS s τ τ' ido idp n L d f d' R R' rx ry x1 LL → ∃ s', unisonlaw23_OrdersSame.p5 (k + 7) (.ptr ido 0 8) (.ptr idp 0 8) (vx rx L d) (vx ry L d') s = some (.bool true, s') := fun {s d' R'} h => by
      unfold unisonlaw23_OrdersSame.p5
      have := same_cmp k hk hL h (k + 7) 0 (by omega) (by omega)
      rw [Int.natCast_zero] at this
      exact this
    rw [conv_i, w_i64 (by omega) (by omega), lss_i]
    by_cases hcb : c < b
    · rw [decide_eq_true (by omega), if_t]
      unfold unisonlaw23_OrdersSame.p7
      obtain ⟨s2, R2, k2, o2, f2⟩ := deliver_run h.p (by omega) (k + 4)
      rw [k2, bnd]
      simp only [aExtract, List.getElem?_cons_zero, List.getElem?_cons_succ]
      have e3 := Ext.push s2 (.cells [AV.int .u8 0, AV.int .u64 0] false)
      have g3 : (s2.push (.cells [AV.int .u8 0, AV.int .u64 0] false)).get s2.next = .cells [AV.int .u8 0, AV.int .u64 0] false := by rw [get_push, if_pos rfl]
      have n3 : s2.next < (s2.push (.cells [AV.int .u8 0, AV.int .u64 0] false)).next := Nat.lt_succ_self _
      rw [new_s, show ([AV.int .u8 0, AV.int .u64 0] : List AV).length = 2 from rfl]
      generalize (s2.push (.cells [AV.int .u8 0, AV.int .u64 0] false)) = s3 at *
      rw [st_id g3 rfl]
      have e4 : Ext s2 (s3.set s2.next (.cells (icells (nid L d')) false)) := ⟨e3.next, fun q hq => by rw [get_set, if_neg (by omega)]; exact e3.get q hq⟩
      have g4 : (s3.set s2.next (.cells (icells (nid L d')) false)).get s2.next = .cells (icells (nid L d')) false := by rw [get_set, if_pos rfl]
      generalize (s3.set s2.next (.cells (icells (nid L d')) false)) = s4 at *
      rw [not_b]
      by_cases hd : d' < (idsOf L).length
      · rw [if_pos hd] at o2
        have ry4 : s4.get ry = .cells (((idsOf L).take d').map icells).flatten false := (e4.get _ (Nat.lt_of_lt_of_le h.lty f2.next)).trans ((f2.get _ h.lty h.ty.2).trans h.rowy)
        have lt4 : ry < s4.next := Nat.lt_of_lt_of_le h.lty (Nat.le_trans f2.next e4.next)
        rw [decide_eq_true hd, Bool.not_true, if_f, ld_id g4, build_idrow, id_row s4 ry4 lt4 (nid L d') (by rw [List.length_take]; omega), take_next hd]
        unfold unisonlaw23_OrdersSame.p6
        rw [add_i, w_i64 (by omega) (by omega), show (c : Int) + 1 = ((c + 1 : Nat) : Int) by omega]
        exact same_rest k hk hk2 hL hb g (c + 1) _ (d' + 1) R2 (h.notey hd o2 f2 (e4.trans (Ext.push s4 _))) (by omega) (by omega)
      · rw [if_neg hd] at o2
        rw [decide_eq_false hd, Bool.not_false, if_t]
        exact fin ((h.secondD o2 f2).ext e4)
    · rw [decide_eq_false (by omega), if_f]
      exact fin h

/-- The first one delivers some. -/
theorem same_some {R0 : AV → AV → AV → AV → AV → AV → AV → AV → AV → Store → Option (AV × Store)} (k : Nat) (hk : 1000000 ≤ k) (hk2 : k ≤ 2000000) (hL : L.length ≤ 30) {a : Nat} (ha : a < 65536) {x3 x4 x15 : AV} : ∀ (g c : Nat) (s : Store) (d : Nat) (R : ORows), InvS s τ τ' ido idp n L d f d' R R' rx ry x1 LL → c ≤ a % 8 → a % 8 - c < g →
    ∃ s' d2 R2, unisonlaw23_OrdersSame.l2 (k + 7) R0 g x1 (.int .u16 (a : Int)) x3 x4 (.ptr ido 0 8) (.ptr idp 0 8) (vx rx L d) (vx ry L d') x15 (.int .i64 (c : Int)) s = unisonlaw23_OrdersSame.p10 (k + 7) R0 x1 (.int .u16 (a : Int)) x3 x4 (.ptr ido 0 8) (.ptr idp 0 8) (vx rx L d2) (vx ry L d') x15 s' ∧ InvS s' τ τ' ido idp n L d2 f d' R2 R' rx ry x1 LL
  | 0, c, _, _, _, _, hc, hg => by omega
  | g + 1, c, s, d, R, h, hc, hg => by
    have hs : unisonlaw23_OrdersSame.l2 (k + 7) R0 (g + 1) = fun x1 x2 x3 x4 x11 x12 x13 x14 x15 x16 s => unisonlaw23_OrdersSame.p13 (k + 7) R0 (unisonlaw23_OrdersSame.l2 (k + 7) R0 g) x1 x2 x3 x4 x11 x12 x13 x14 x15 x16 s := rfl
    rw [hs]
    clear hs
    simp only
    unfold unisonlaw23_OrdersSame.p13
    have hil := ids_le h.o.ok
    have h1 := h.o.dle
    have hrem : ∀ {α : Type} (g : AV → Option α), aBin .rem (.int .u16 (a : Int)) (.int .u16 8) g = g (.int .u16 ((a % 8 : Nat) : Int)) := fun g => by
      simp only [aBin, intBin, if_true, if_neg (show ¬ (8 : Int) = 0 by omega), Int.tmod_eq_emod_of_nonneg (show (0 : Int) ≤ a by omega)]
      congr 2
    rw [hrem, conv_i, w_i64 (by omega) (by omega), lss_i]
    by_cases hca : c < a % 8
    · rw [decide_eq_true (by omega), if_t]
      unfold unisonlaw23_OrdersSame.p12
      obtain ⟨s2, R2, k2, o2, f2⟩ := deliver_run h.o (by omega) (k + 4)
      rw [k2, bnd]
      simp only [aExtract, List.getElem?_cons_zero, List.getElem?_cons_succ]
      have e3 := Ext.push s2 (.cells [AV.int .u8 0, AV.int .u64 0] false)
      have g3 : (s2.push (.cells [AV.int .u8 0, AV.int .u64 0] false)).get s2.next = .cells [AV.int .u8 0, AV.int .u64 0] false := by rw [get_push, if_pos rfl]
      have n3 : s2.next < (s2.push (.cells [AV.int .u8 0, AV.int .u64 0] false)).next := Nat.lt_succ_self _
      rw [new_s, show ([AV.int .u8 0, AV.int .u64 0] : List AV).length = 2 from rfl]
      generalize (s2.push (.cells [AV.int .u8 0, AV.int .u64 0] false)) = s3 at *
      rw [st_id g3 rfl]
      have e4 : Ext s2 (s3.set s2.next (.cells (icells (nid L d)) false)) := ⟨e3.next, fun q hq => by rw [get_set, if_neg (by omega)]; exact e3.get q hq⟩
      have g4 : (s3.set s2.next (.cells (icells (nid L d)) false)).get s2.next = .cells (icells (nid L d)) false := by rw [get_set, if_pos rfl]
      generalize (s3.set s2.next (.cells (icells (nid L d)) false)) = s4 at *
      unfold unisonlaw23_OrdersSame.p11
      have hw1 : IntKind.i64.wrap ((c : Int) + 1) = ((c + 1 : Nat) : Int) := by rw [w_i64 (by omega) (by omega)]; omega
      by_cases hd : d < (idsOf L).length
      · rw [if_pos hd] at o2
        have rx4 : s4.get rx = .cells (((idsOf L).take d).map icells).flatten false := (e4.get _ (Nat.lt_of_lt_of_le h.ltx f2.next)).trans ((f2.get _ h.ltx h.tx.1).trans h.rowx)
        have lt4 : rx < s4.next := Nat.lt_of_lt_of_le h.ltx (Nat.le_trans f2.next e4.next)
        rw [decide_eq_true hd, if_t, ld_id g4, build_idrow, id_row s4 rx4 lt4 (nid L d) (by rw [List.length_take]; omega), take_next hd, add_i, hw1]
        exact same_some k hk hk2 hL ha g (c + 1) _ (d + 1) R2 (h.notex hd o2 f2 (e4.trans (Ext.push s4 _))) (by omega) (by omega)
      · rw [if_neg hd] at o2
        rw [decide_eq_false hd, if_f, add_i, hw1]
        exact same_some k hk hk2 hL ha g (c + 1) _ d R2 ((h.firstD o2 f2).ext e4) (by omega) (by omega)
    · rw [decide_eq_false (by omega), if_f]
      exact ⟨s, d, R, rfl, h⟩

theorem same_loop3 (k : Nat) (hk : 1000000 ≤ k) (hk2 : k ≤ 2000000) (hLL : LL.length ≤ 30) (hwf : ∀ l ∈ LL, ∀ r ∈ l, WfR r) {a b u : Nat} (ha : a < 65536) (hb : b < 65536) (hu : u < 18446744073709551616) : ∀ (g i : Nat) (s : Store) (τ τ' : Nat → Nat) (L : List (List Rn)) (d f : Nat) (R R' : ORows), InvS s τ τ' ido idp n L d f 0 R R' rx ry x1 LL → L.length ≤ i → i ≤ LL.length → LL.length - i < g →
    ∃ s', unisonlaw23_OrdersSame.l3 (k + 7) g x1 (.int .u16 (a : Int)) (.int .u16 (b : Int)) (.int .u64 (u : Int)) (.ptr ido 0 8) (.ptr idp 0 8) (vx rx L d) (vx ry L 0) (.int .i64 (i : Int)) s = some (.bool true, s')
  | 0, i, _, _, _, _, _, _, _, _, _, _, hi, hg => by omega
  | g + 1, i, s, τ, τ', L, d, f, R, R', h, hLi, hi, hg => by
    have hs : unisonlaw23_OrdersSame.l3 (k + 7) (g + 1) = fun x1 x2 x3 x4 x11 x12 x13 x14 x15 s => unisonlaw23_OrdersSame.p19 (k + 7) (unisonlaw23_OrdersSame.l3 (k + 7) g) x1 x2 x3 x4 x11 x12 x13 x14 x15 s := rfl
    rw [hs]
    clear hs
    simp only
    unfold unisonlaw23_OrdersSame.p19
    rw [(h.args.sub vz_sub).len, lss_i]
    by_cases hil : i < LL.length
    · rw [decide_eq_true (by omega), if_t]
      unfold unisonlaw23_OrdersSame.p18
      have hw := hwf _ (List.getElem_mem hil)
      obtain ⟨q, w, q1, q2, hr⟩ := h.args.at' vz_sub hil
      generalize LL[i] = l at *
      have hbd : ∀ {α : Type} (g : List AV → Option α), aBuild [(1, 1, w)] [AV.int .i64 0, AV.nilsl, AV.int .u64 0] g = g [.int .i64 0, w, .int .u64 0] := fun g => by
        rcases hr with ⟨rfl, _⟩ | ⟨_, _, rfl, _⟩ <;> rfl
      obtain ⟨s1, k1, e1⟩ := great_run (hr.sub vz_sub) hw 0 0 (k + 4) (by omega) (by omega)
      rw [q1, q2 vz_sub, hbd, k1, bnd]
      simp only
      by_cases hgr : (decide (100 < l.length) || decide (300 < countR 0 l)) = true
      · rw [hgr, if_t]
        have := awake_rn (k + 6) s1
        rw [this, bnd]
        exact ⟨_, rfl⟩
      · have hgr' : (decide (100 < l.length) || decide (300 < countR 0 l)) = false := by simpa using hgr
        rw [hgr', if_f]
        have hl100 : l.length ≤ 100 := by
          rw [Bool.or_eq_false_iff] at hgr'
          have := of_decide_eq_false hgr'.1; omega
        have h1 := h.ext e1
        have sub1 : Sub (vz (ZS τ τ' rx ry) s) (vz (ZS τ τ' rx ry) s1) := vz_to e1.next fun r hr hz => ⟨hz, e1.get r hr⟩
        have hr1 := hr.sub sub1
        obtain ⟨s2, τ2, R2, k2, o2, f2, t2⟩ := decide_run h1.o (by omega) (hr1.sub vz_sub) (fun a b c e g hh => (vz_tag hr1 a b c e g hh).1) hw (by omega) k (by omega) (by omega)
        have dis2 : ∀ r, τ2 r = 0 ∨ τ' r = 0 := fun r => by
          by_cases hr : r < s1.next
          · rw [t2 r hr]; exact h.dis r
          · exact .inr (h1.p.fresh r (by omega))
        have p2 : IsO s2 τ' idp n L 0 0 R' := h1.p.keep f2.next (fun r hr h0 => f2.get r hr ((h.dis r).resolve_right h0))
        have sub2 : Sub (vz (ZS τ τ' rx ry) s1) (vz (ZS τ2 τ' rx ry) s2) := vz_to f2.next fun r hr hz => ⟨⟨(t2 r hr).trans hz.1, hz.2⟩, f2.get r hr hz.1⟩
        have hr2 := hr1.sub sub2
        obtain ⟨s3, τ3, R3, k3, o3, f3, t3⟩ := decide_run p2 (by omega) (hr2.sub vz_sub) (fun a b c e g hh => (vz_tag hr2 a b c e g hh).2.1) hw (by omega) k (by omega) (by omega)
        have sub3 : Sub (vz (ZS τ2 τ' rx ry) s2) (vz (ZS τ2 τ3 rx ry) s3) := vz_to f3.next fun r hr hz => ⟨⟨hz.1, (t3 r hr).trans hz.2.1, hz.2.2⟩, f3.get r hr hz.2.1⟩
        have o3' : IsO s3 τ2 ido n (if mayR (baseOf n L) 4096 l = true then L ++ [l] else L) d f R2 := o2.keep f3.next (fun r hr h0 => f3.get r hr ((dis2 r).resolve_left h0))
        have lx2 : rx < s2.next := Nat.lt_of_lt_of_le h1.ltx f2.next
        have ly2 : ry < s2.next := Nat.lt_of_lt_of_le h1.lty f2.next
        have hd := h.o.dle
        have tk : ∀ y, y ≤ (idsOf L).length → (idsOf (if mayR (baseOf n L) 4096 l = true then L ++ [l] else L)).take y = (idsOf L).take y := fun y hy => by
          split
          · rw [idsOf_app, List.take_append_of_le_length hy]
          · rfl
        have hI : InvS s3 τ2 τ3 ido idp n (if mayR (baseOf n L) 4096 l = true then L ++ [l] else L) d f 0 R2 R3 rx ry x1 LL := by
          refine ⟨o3', o3, fun r => ?_, ?_, ?_, Nat.lt_of_lt_of_le lx2 f3.next, Nat.lt_of_lt_of_le ly2 f3.next, ⟨(t2 _ h1.ltx).trans h.tx.1, (t3 _ lx2).trans h.tx.2⟩, ⟨(t2 _ h1.lty).trans h.ty.1, (t3 _ ly2).trans h.ty.2⟩, h.ne, ((h.args.sub sub1).sub sub2).sub sub3⟩
          · by_cases hr : r < s2.next
            · rw [t3 r hr]; exact dis2 r
            · exact .inl (o2.fresh r (by omega))
          · rw [f3.get _ lx2 h.tx.2, f2.get _ h1.ltx h.tx.1, h1.rowx, tk d hd]
          · rw [f3.get _ ly2 h.ty.2, f2.get _ h1.lty h.ty.1, h1.rowy, tk 0 (Nat.zero_le _)]
        have ld2 : ∀ {α : Type} (g : AV → Option α), aLoad1 q s2 g = g w := q2 ((sub1.trans sub2).trans vz_sub)
        have eqb : ∀ (b : Bool) {α : Type} (g : Bool → Option α), aEq .bool (.bool b) (.bool b) g = g true := fun b α g => by simp [aEq]
        have evx : vx rx L d = vx rx (if mayR (baseOf n L) 4096 l = true then L ++ [l] else L) d := by unfold vx; rw [tk d hd]
        have evy : vx ry L 0 = vx ry (if mayR (baseOf n L) 4096 l = true then L ++ [l] else L) 0 := by unfold vx; rw [tk 0 (Nat.zero_le _)]
        unfold unisonlaw23_OrdersSame.p17
        simp only [bnd, q1, q2 (sub1.trans vz_sub), k2, ld2, aSame_self, k3, eqb, Bool.not_true]
        unfold unisonlaw23_OrdersSame.p16
        rw [if_f, evx, evy]
        have hlen : (if mayR (baseOf n L) 4096 l = true then L ++ [l] else L).length ≤ L.length + 1 := by split <;> simp
        generalize (if mayR (baseOf n L) 4096 l = true then L ++ [l] else L) = L' at *
        unfold unisonlaw23_OrdersSame.p15
        obtain ⟨s4, R4, k4, o4, f4⟩ := forget_run hI.o (by omega) u hu (k + 6) (by omega)
        rw [k4, bnd]
        unfold unisonlaw23_OrdersSame.p14
        have hI4 := hI.first (L2 := L') o4 f4 (fun _ _ => rfl)
        obtain ⟨s5, d5, R5, k5, h5⟩ := same_some (R0 := unisonlaw23_OrdersSame.l3 (k + 7) g) k hk hk2 (by omega) ha (x3 := .int .u16 (b : Int)) (x4 := .int .u64 (u : Int)) (x15 := .int .i64 (i : Int)) (k + 7) 0 s4 d R4 hI4 (Nat.zero_le _) (by omega)
        rw [Int.natCast_zero] at k5
        simp only
        rw [k5]
        unfold unisonlaw23_OrdersSame.p10
        rw [add_i, w_i64 (by omega) (by omega), show (i : Int) + 1 = ((i + 1 : Nat) : Int) by omega]
        exact same_loop3 k hk hk2 hLL hwf ha hb hu g (i + 1) s5 _ _ L' d5 _ R5 R3 h5 (by omega) (by omega) (by omega)
    · rw [decide_eq_false (by omega), if_f]
      unfold unisonlaw23_OrdersSame.p9
      have := same_rest k hk hk2 (show L.length ≤ 30 by omega) hb (k + 7) 0 s 0 R' h (Nat.zero_le _) (by omega)
      rw [Int.natCast_zero] at this
      exact this
end

theorem same_run3 {s : Store} {x1 : AV} {LL : List (List Rn)} (h1 : IsLL s x1 LL) (hwf : ∀ l ∈ LL, ∀ r ∈ l, WfR r) (z a b u : Int) (ha : 0 ≤ a ∧ a < 65536) (hb : 0 ≤ b ∧ b < 65536) (hu : 0 ≤ u ∧ u < 18446744073709551616) : ∃ s', rn 1000008 4 [.int .i64 z, x1, .int .u16 a, .int .u16 b, .int .u64 u] s = some (.bool true, s') := by
  rw [show 1000008 = 1000000 + 7 + 1 from rfl, unisonlaw23_OrdersSame.eq]
  unfold unisonlaw23_OrdersSame.f unisonlaw23_OrdersSame.p24 unisonlaw23_OrdersSame.p23
  rw [h1.len, gtr_i]
  by_cases hA : ((LL.length : Nat) : Int) > 30
  · rw [decide_eq_true hA, if_t]
    have := awake_rn (1000000 + 6) s
    rw [this, bnd]
    exact ⟨_, rfl⟩
  · rw [decide_eq_false hA, if_f]
    unfold unisonlaw23_OrdersSame.p22
    obtain ⟨s2, R, k2, o2, e2⟩ := new_run z (1000000 + 6) s
    obtain ⟨s3, R', k3, o3, e3⟩ := new_run z (1000000 + 6) s2
    simp only [k2, bnd, k3]
    unfold unisonlaw23_OrdersSame.p21
    rw [build_0, build_0]
    have e4 := Ext.push s3 (.cells [] false)
    have g4 : (s3.push (.cells [] false)).get s3.next = .cells [] false := by rw [get_push, if_pos rfl]
    have n4 : (s3.push (.cells [] false)).next = s3.next + 1 := rfl
    generalize (s3.push (.cells [] false)) = s4 at *
    have e5 := Ext.push s4 (.cells [] false)
    have g5 : (s4.push (.cells [] false)).get s4.next = .cells [] false := by rw [get_push, if_pos rfl]
    have n5 : (s4.push (.cells [] false)).next = s4.next + 1 := rfl
    generalize (s4.push (.cells [] false)) = s5 at *
    obtain ⟨an, rfl⟩ : ∃ m : Nat, a = m := ⟨a.toNat, by omega⟩
    obtain ⟨bn, rfl⟩ : ∃ m : Nat, b = m := ⟨b.toNat, by omega⟩
    obtain ⟨un, rfl⟩ : ∃ m : Nat, u = m := ⟨u.toNat, by omega⟩
    have t1 : ∀ r, s2.next ≤ r → newTags s.next r = 0 := o2.fresh
    have t2 : ∀ r, s3.next ≤ r → newTags s2.next r = 0 := o3.fresh
    have l2 : s.next + 8 < s2.next := o2.lt.1
    have l3 : s2.next + 8 < s3.next := o3.lt.1
    have t3 : ∀ r, r < s2.next → newTags s2.next r = 0 := fun r hr => by unfold newTags; rw [if_neg (by omega), if_neg (by omega), if_neg (by omega), if_neg (by omega)]
    have t0 : ∀ r, r < s.next → newTags s.next r = 0 := fun r hr => by unfold newTags; rw [if_neg (by omega), if_neg (by omega), if_neg (by omega), if_neg (by omega)]
    have e05 : Ext s s5 := e2.trans (e3.trans (e4.trans e5))
    have hI : InvS s5 (newTags s.next) (newTags s2.next) (s.next + 8) (s2.next + 8) (max 1 (min z 64)).toNat [] 0 0 0 R R' s3.next s4.next x1 LL := by
      refine ⟨o2.ext (e3.trans (e4.trans e5)), o3.ext (e4.trans e5), fun r => ?_, (e5.get _ (by omega)).trans g4, g5, by omega, by omega, ⟨t1 _ (by omega), t2 _ (by omega)⟩, ⟨t1 _ (by omega), t2 _ (by omega)⟩, by omega, ?_⟩
      · by_cases hr : r < s2.next
        · exact .inr (t3 r hr)
        · exact .inl (t1 r (by omega))
      · exact h1.sub ⟨e05.next, fun r hr _ => by rw [vz_get ⟨t0 r hr, t3 r (by omega), by omega, by omega⟩]; exact e05.get r hr⟩
    unfold unisonlaw23_OrdersSame.p20
    have := same_loop3 1000000 (by omega) (by omega) (by omega) hwf (a := an) (b := bn) (u := un) (by omega) (by omega) (by omega) (1000000 + 7) 0 s5 _ _ [] 0 0 R R' hI (Nat.le_refl _) (Nat.zero_le _) (by omega)
    rw [Int.natCast_zero] at this
    exact this
end Go.Proofs.Ytahiipfjhjeofaa.Sim
