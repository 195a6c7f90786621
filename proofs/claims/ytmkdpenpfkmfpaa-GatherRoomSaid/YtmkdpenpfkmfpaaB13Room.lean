/- Layer 13: the law GatherRoom, its run. No condition. -/
import Derived.Test.YtmkdpenpfkmfpaaB13S
import Derived.Test.YtmkdpenpfkmfpaaFunRoom
namespace Go.Proofs.Ytmkdpenpfkmfpaa.Sim
set_option linter.unusedSimpArgs false
set_option linter.unusedVariables false
variable {s s' : Store} {gid : Nat} {g : GS} {pv : AV} {rr : List Nat}

theorem great6_run {f : Frm × List Int} (h : IsFr s f.1.cells f) (k : Nat) : ∃ b s', rn (k + 1) 7 [.agg f.1.cells] s = some (.bool b, s') ∧ Ext s s' := by
  rw [unisonref06_Great.eq]
  unfold unisonref06_Great.f unisonref06_Great.p0
  have e := Ext.push s (.cells f.1.cells false)
  have hf : (s.push (.cells f.1.cells false)).get s.next = .cells f.1.cells false := by rw [get_push, if_pos rfl]
  have hlen : f.1.cells.length = 16 := rfl
  obtain ⟨n1, n2, n3, n4, hl⟩ := h.lens
  have l1 : ∀ {γ : Type} (c : AV → Option γ), aLen f.1.c11 c = c (.int .i64 (n1 : Int)) := fun c => (hl c).1
  have l2 : ∀ {γ : Type} (c : AV → Option γ), aLen f.1.c12 c = c (.int .i64 (n2 : Int)) := fun c => (hl c).2.1
  have l3 : ∀ {γ : Type} (c : AV → Option γ), aLen f.1.c13 c = c (.int .i64 (n3 : Int)) := fun c => (hl c).2.2.1
  have l4 : ∀ {γ : Type} (c : AV → Option γ), aLen f.1.c14 c = c (.int .i64 (n4 : Int)) := fun c => (hl c).2.2.2
  have l5 := fun {γ : Type} (c : AV → Option γ) => lenV h.dat c
  have d1 : ∀ {α : Type} (c : AV → Option α), aLoad1 (.ptr s.next (0 + 11) 16) (s.push (.cells f.1.cells false)) c = c f.1.c11 := fun c => g_ld hf rfl rfl c
  have d2 : ∀ {α : Type} (c : AV → Option α), aLoad1 (.ptr s.next (0 + 12) 16) (s.push (.cells f.1.cells false)) c = c f.1.c12 := fun c => g_ld hf rfl rfl c
  have d3 : ∀ {α : Type} (c : AV → Option α), aLoad1 (.ptr s.next (0 + 13) 16) (s.push (.cells f.1.cells false)) c = c f.1.c13 := fun c => g_ld hf rfl rfl c
  have d4 : ∀ {α : Type} (c : AV → Option α), aLoad1 (.ptr s.next (0 + 14) 16) (s.push (.cells f.1.cells false)) c = c f.1.c14 := fun c => g_ld hf rfl rfl c
  have d5 : ∀ {α : Type} (c : AV → Option α), aLoad1 (.ptr s.next (0 + 15) 16) (s.push (.cells f.1.cells false)) c = c f.1.dv := fun c => g_ld hf rfl rfl c
  simp only [cells_agg, new_s, hlen, bnd, guard_tt, guard_ff, guard_tf, guard_ft, pick_t, pick_f, if_t, if_f, add_i, sub_i, lss_i, leq_i, gtr_i, geq_i, eql_i, neq_i, min_i, max_i, conv_i, len_sl, len_nil, not_b, cells_agg, new_s, fld_p, nil_p, d1, l1]
  cases decide ((n1 : Int) > 100)
  rotate_left
  · simp only [bnd, guard_tt, guard_ff, guard_tf, guard_ft, pick_t, pick_f, if_t, if_f, add_i, sub_i, lss_i, leq_i, gtr_i, geq_i, eql_i, neq_i, min_i, max_i, conv_i, len_sl, len_nil, not_b, cells_agg, new_s, fld_p, nil_p, guard_skip]
    exact ⟨_, _, rfl, e⟩
  simp only [bnd, guard_tt, guard_ff, guard_tf, guard_ft, pick_t, pick_f, if_t, if_f, add_i, sub_i, lss_i, leq_i, gtr_i, geq_i, eql_i, neq_i, min_i, max_i, conv_i, len_sl, len_nil, not_b, cells_agg, new_s, fld_p, nil_p, d2, l2]
  cases decide ((n2 : Int) > 100)
  rotate_left
  · simp only [bnd, guard_tt, guard_ff, guard_tf, guard_ft, pick_t, pick_f, if_t, if_f, add_i, sub_i, lss_i, leq_i, gtr_i, geq_i, eql_i, neq_i, min_i, max_i, conv_i, len_sl, len_nil, not_b, cells_agg, new_s, fld_p, nil_p, guard_skip]
    exact ⟨_, _, rfl, e⟩
  simp only [bnd, guard_tt, guard_ff, guard_tf, guard_ft, pick_t, pick_f, if_t, if_f, add_i, sub_i, lss_i, leq_i, gtr_i, geq_i, eql_i, neq_i, min_i, max_i, conv_i, len_sl, len_nil, not_b, cells_agg, new_s, fld_p, nil_p, d3, l3]
  cases decide ((n3 : Int) > 100)
  rotate_left
  · simp only [bnd, guard_tt, guard_ff, guard_tf, guard_ft, pick_t, pick_f, if_t, if_f, add_i, sub_i, lss_i, leq_i, gtr_i, geq_i, eql_i, neq_i, min_i, max_i, conv_i, len_sl, len_nil, not_b, cells_agg, new_s, fld_p, nil_p, guard_skip]
    exact ⟨_, _, rfl, e⟩
  simp only [bnd, guard_tt, guard_ff, guard_tf, guard_ft, pick_t, pick_f, if_t, if_f, add_i, sub_i, lss_i, leq_i, gtr_i, geq_i, eql_i, neq_i, min_i, max_i, conv_i, len_sl, len_nil, not_b, cells_agg, new_s, fld_p, nil_p, d4, l4]
  cases decide ((n4 : Int) > 100)
  rotate_left
  · simp only [bnd, guard_tt, guard_ff, guard_tf, guard_ft, pick_t, pick_f, if_t, if_f, add_i, sub_i, lss_i, leq_i, gtr_i, geq_i, eql_i, neq_i, min_i, max_i, conv_i, len_sl, len_nil, not_b, cells_agg, new_s, fld_p, nil_p, guard_skip]
    exact ⟨_, _, rfl, e⟩
  simp only [bnd, guard_tt, guard_ff, guard_tf, guard_ft, pick_t, pick_f, if_t, if_f, add_i, sub_i, lss_i, leq_i, gtr_i, geq_i, eql_i, neq_i, min_i, max_i, conv_i, len_sl, len_nil, not_b, cells_agg, new_s, fld_p, nil_p, d5, l5]
  exact ⟨_, _, rfl, e⟩

/-- What the law keeps. -/
structure RoomI (s0 s : Store) (gid : Nat) (g : GS) (pv : AV) (rr : List Nat) (cap : Int) (i : Nat) : Prop where
  ext : Ext s0 s
  isG : IsG s gid g pv rr
  far : ∀ x ∈ gid :: (rr ++ (g.L.map Part.rows).flatten), s0.next ≤ x
  room : g.most ≤ g.room ∧ g.room < 9223372036854775808
  used : ((usedL g.L : Nat) : Int) ≤ g.room
  len : g.L.length ≤ i
  cap : g.room = cap
theorem FrS.far {s0 s s' : Store} {S : List Nat} (h : FrS S s s') (e : Ext s0 s) (hS : ∀ x ∈ S, s0.next ≤ x) : Ext s0 s' :=
  ⟨Nat.le_trans e.next h.next, fun l hl => (h.get l (Nat.lt_of_lt_of_le hl e.next) fun q => by have := hS l q; omega).trans (e.get l hl)⟩
theorem RoomI.ext' {s0 s s1 : Store} {cap : Int} {i : Nat} (h : RoomI s0 s gid g pv rr cap i) (e : Ext s s1) : RoomI s0 s1 gid g pv rr cap i :=
  ⟨h.ext.trans e, h.isG.ext e, h.far, h.room, h.used, h.len, h.cap⟩
theorem RoomI.want {s0 s s1 : Store} {cap : Int} {i : Nat} {x : Int × Int} (h : RoomI s0 s gid g pv rr cap i) (h1 : IsG s1 gid { g with wanted := x } pv rr) (e : Fr1 gid s s1) : RoomI s0 s1 gid { g with wanted := x } pv rr cap i :=
  ⟨(e.frS (S := [gid]) (by simp)).far h.ext fun y hy => by rw [List.mem_singleton.1 hy]; exact h.far gid (by simp), h1, h.far, h.room, h.used, h.len, h.cap⟩

/-- A frame is put, in the law. -/
theorem room_put {s0 s : Store} {cap : Int} {i : Nat} {f : Frm × List Int} (h : RoomI s0 s gid g pv rr cap i) (hf : IsFr s0 f.1.cells f) (hi : i ≤ 100) (k : Nat) (hk : 16385 ≤ k) :
    ∃ s' v g' pv' rr' made, rn (k + 6) 9 [.ptr gid 0 12, .agg f.1.cells] s = some (.tuple [v, .int .u8 (made : Nat)], s') ∧ RoomI s0 s' gid g' pv' rr' cap (i + 1) ∧ (g.wanted = f.1.id → made ≠ 3) := by
  have hd := hf.dat.ext h.ext
  have hl := h.len
  obtain ⟨s1, v, g1, pv1, rr1, made, c1, c2⟩ := put_run h.isG (by omega) hf.wf hf.id1 hd (fun i b c d e q q2 => by
    have h1 := hf.dat.lt _ _ _ _ _ q
    have h2 := h.far _ q2
    omega) h.room k hk (by omega)
  have huA : ((usedA g.abs.L : Nat) : Int) ≤ g.abs.room := by rw [show g.abs.L = g.L.map Part.abs from rfl, usedA_abs]; exact h.used
  obtain ⟨p1, p2, p3, p4⟩ := putA_room (d := f.2) hf.wf (g := g.abs) h.room.1 huA
  rw [← c2.abs] at p1 p2 p3
  rw [← c2.eqm] at p4
  have h1 : g1.room = g.room := p1.room
  have h2 : g1.most = g.most := p1.most
  have hlen : g1.L.length ≤ g.L.length + 1 := by simpa [GS.abs] using p3
  have hn := h.ext.next
  refine ⟨s1, v, g1, pv1, rr1, made, c1, ⟨c2.fr.far h.ext h.far, c2.isG, fun x hx => ?_, by rw [h1, h2]; exact h.room, ?_, by omega, h1.trans h.cap⟩, p4⟩
  · rcases List.mem_cons.1 hx with rfl | hx
    · exact h.far _ (by simp)
    · rcases c2.rows x hx with q | q
      · exact h.far _ (List.mem_cons_of_mem _ q)
      · omega
  · rw [show g1.abs.L = g1.L.map Part.abs from rfl, usedA_abs] at p2
    rw [h1]
    exact p2

theorem room_loop {s0 : Store} {v : AV} {F : List (Frm × List Int)} (hF : IsFrs s0 v F) (hlen : F.length ≤ 100) (cap : Int) (k : Nat) (hk : 16385 ≤ k) : ∀ (m i : Nat) (s : Store) (g : GS) (pv : AV) (rr : List Nat), i ≤ F.length → F.length - i < m → RoomI s0 s gid g pv rr cap i →
    ∃ s', unisonlaw13_GatherRoom.l0 (k + 6) m v (.ptr gid 0 12) (.int .i64 cap) (.int .i64 (i : Int)) s = some (.bool true, s')
  | 0, i, s, g, pv, rr, _, hm, _ => by omega
  | m + 1, i, s, g, pv, rr, hi, hm, h => by
    have hs : unisonlaw13_GatherRoom.l0 (k + 6) (m + 1) = fun x3 x9 x10 x11 s => unisonlaw13_GatherRoom.p6 (k + 6) (unisonlaw13_GatherRoom.l0 (k + 6) m) x3 x9 x10 x11 s := rfl
    rw [hs]
    clear hs
    simp only
    unfold unisonlaw13_GatherRoom.p6
    rw [hF.len]
    by_cases hlt : i < F.length
    rotate_left
    · simp only [bnd, guard_tt, guard_ff, guard_tf, guard_ft, pick_t, pick_f, if_t, if_f, add_i, sub_i, lss_i, leq_i, gtr_i, geq_i, eql_i, neq_i, min_i, max_i, conv_i, len_sl, len_nil, not_b, cells_agg, new_s, fld_p, nil_p, lss_i, decide_eq_false (show ¬ (i : Int) < ((F.length : Nat) : Int) by omega)]
      unfold unisonlaw13_GatherRoom.p0
      have hw := awake_rn (k + 5) s
      have hw' : rn (k + 6) 5 [] s = some (.bool true, s) := hw
      simp only [hw', bnd]
      exact ⟨_, rfl⟩
    simp only [lss_i, decide_eq_true (show (i : Int) < ((F.length : Nat) : Int) by omega), if_t]
    unfold unisonlaw13_GatherRoom.p5
    obtain ⟨id, ep, a1, a2, a3, a4, a5⟩ := (hF.ext h.ext).at hlt
    obtain ⟨b, s1, b1, b2⟩ := great6_run a5 (k + 5)
    have b1' : rn (k + 6) 7 [.agg F[i].1.cells] s = some (.bool b, s1) := b1
    have hw' : ∀ t, rn (k + 6) 5 [] t = some (.bool true, t) := fun t => awake_rn (k + 5) t
    simp only [bnd, guard_tt, guard_ff, guard_tf, guard_ft, pick_t, pick_f, if_t, if_f, add_i, sub_i, lss_i, leq_i, gtr_i, geq_i, eql_i, neq_i, min_i, max_i, conv_i, len_sl, len_nil, not_b, cells_agg, new_s, fld_p, nil_p, a1, a2, b1']
    cases b
    rotate_left
    · simp only [bnd, guard_tt, guard_ff, guard_tf, guard_ft, pick_t, pick_f, if_t, if_f, add_i, sub_i, lss_i, leq_i, gtr_i, geq_i, eql_i, neq_i, min_i, max_i, conv_i, len_sl, len_nil, not_b, cells_agg, new_s, fld_p, nil_p, guard_skip, hw']
      exact ⟨_, rfl⟩
    have h1 := h.ext' b2
    obtain ⟨id1, ep1, a1', a2', a3', a4', a5'⟩ := (hF.ext h1.ext).at hlt
    simp only [bnd, guard_tt, guard_ff, guard_tf, guard_ft, pick_t, pick_f, if_t, if_f, add_i, sub_i, lss_i, leq_i, gtr_i, geq_i, eql_i, neq_i, min_i, max_i, conv_i, len_sl, len_nil, not_b, cells_agg, new_s, fld_p, nil_p, a1', a3']
    cases decide (F[i].1.size > 5000)
    rotate_left
    · simp only [bnd, guard_tt, guard_ff, guard_tf, guard_ft, pick_t, pick_f, if_t, if_f, add_i, sub_i, lss_i, leq_i, gtr_i, geq_i, eql_i, neq_i, min_i, max_i, conv_i, len_sl, len_nil, not_b, cells_agg, new_s, fld_p, nil_p, guard_skip, hw']
      exact ⟨_, rfl⟩
    simp only [bnd, guard_tt, guard_ff, guard_tf, guard_ft, pick_t, pick_f, if_t, if_f, add_i, sub_i, lss_i, leq_i, gtr_i, geq_i, eql_i, neq_i, min_i, max_i, conv_i, len_sl, len_nil, not_b, cells_agg, new_s, fld_p, nil_p]
    have ha0 : IsFr s0 F[i].1.cells F[i] := by
      obtain ⟨_, _, _, _, _, _, q⟩ := hF.at hlt
      exact q
    have step : ∀ (w : Bool) (s2 : Store) (g2 : GS), RoomI s0 s2 gid g2 pv rr cap i → (w = true → g2.wanted = F[i].1.id) →
        ∃ s', unisonlaw13_GatherRoom.p2 (k + 6) (unisonlaw13_GatherRoom.l0 (k + 6) m) v (.ptr gid 0 12) (.int .i64 cap) (.int .i64 (i : Int)) (.bool w) s2 = some (.bool true, s') := by
      intro w s2 g2 h2 hw2
      unfold unisonlaw13_GatherRoom.p2
      obtain ⟨id2, ep2, q1, q2, _⟩ := (hF.ext h2.ext).at hlt
      obtain ⟨s3, ov, g3, pv3, rr3, made, c1, c2, c3⟩ := room_put h2 ha0 (by omega) k hk
      have hu := used_run c2.isG (by have := c2.len; omega) (k + 5) (by have := c2.len; omega)
      have hu' : rn (k + 6) 10 [.ptr gid 0 12] s3 = some (.int .i64 (usedL g3.L : Nat), s3) := hu
      have hle : ¬ ((usedL g3.L : Nat) : Int) > cap := by have := c2.used; have := c2.cap; omega
      have hl0 : ¬ ((usedL g3.L : Nat) : Int) < 0 := by omega
      have he0 : ∀ {α : Type} (x y : AV) (c : AV → Option α), aExtract 0 (.tuple [x, y]) c = c x := fun x y c => rfl
      have he1 : ∀ {α : Type} (x y : AV) (c : AV → Option α), aExtract 1 (.tuple [x, y]) c = c y := fun x y c => rfl
      have hw1 : IntKind.i64.wrap ((i : Int) + 1) = ((i + 1 : Nat) : Int) := by rw [w_i64 (by omega) (by omega)]; omega
      obtain ⟨s4, c4⟩ := room_loop hF hlen cap k hk m (i + 1) s3 g3 pv3 rr3 (by omega) (by omega) c2
      unfold unisonlaw13_GatherRoom.p1
      cases w
      · simp only [bnd, guard_tt, guard_ff, guard_tf, guard_ft, pick_t, pick_f, if_t, if_f, add_i, sub_i, lss_i, leq_i, gtr_i, geq_i, eql_i, neq_i, min_i, max_i, conv_i, len_sl, len_nil, not_b, cells_agg, new_s, fld_p, nil_p, q1, q2, c1, he0, he1, hu', decide_eq_false hle, lss_i, decide_eq_false hl0, guard_skip, hw1, c4]
        exact ⟨_, rfl⟩
      · have hm3 : (((made : Nat) : Int) == 3) = false := by
          have := c3 (hw2 rfl)
          simp; omega
        simp only [bnd, guard_tt, guard_ff, guard_tf, guard_ft, pick_t, pick_f, if_t, if_f, add_i, sub_i, lss_i, leq_i, gtr_i, geq_i, eql_i, neq_i, min_i, max_i, conv_i, len_sl, len_nil, not_b, cells_agg, new_s, fld_p, nil_p, q1, q2, c1, he0, he1, hu', decide_eq_false hle, lss_i, decide_eq_false hl0, guard_skip, hm3, hw1, c4]
        exact ⟨_, rfl⟩
    unfold unisonlaw13_GatherRoom.p4 unisonlaw13_GatherRoom.p3
    have hrem : ∀ {α : Type} (c : AV → Option α), aBin .rem (.int .i64 (i : Int)) (.int .i64 2) c = c (.int .i64 ((i : Int) % 2)) := fun c => rem_i (by omega) (by omega) c
    simp only [hrem, bnd, guard_tt, guard_ff, guard_tf, guard_ft, pick_t, pick_f, if_t, if_f, add_i, sub_i, lss_i, leq_i, gtr_i, geq_i, eql_i, neq_i, min_i, max_i, conv_i, len_sl, len_nil, not_b, cells_agg, new_s, fld_p, nil_p]
    cases hodd : ((i : Int) % 2 == 1)
    · simp only [bnd, guard_tt, guard_ff, guard_tf, guard_ft, pick_t, pick_f, if_t, if_f, add_i, sub_i, lss_i, leq_i, gtr_i, geq_i, eql_i, neq_i, min_i, max_i, conv_i, len_sl, len_nil, not_b, cells_agg, new_s, fld_p, nil_p]
      exact step false s1 g h1 (fun q => by cases q)
    · obtain ⟨s2, w1, w2, w3⟩ := want_run h1.isG F[i].1.id (k + 5)
      have w1' : rn (k + 6) 8 [.ptr gid 0 12, .agg [.int .u8 F[i].1.id.1, .int .u64 F[i].1.id.2]] s1 = some (.tuple [], s2) := w1
      simp only [bnd, guard_tt, guard_ff, guard_tf, guard_ft, pick_t, pick_f, if_t, if_f, add_i, sub_i, lss_i, leq_i, gtr_i, geq_i, eql_i, neq_i, min_i, max_i, conv_i, len_sl, len_nil, not_b, cells_agg, new_s, fld_p, nil_p, a1', a4', w1']
      exact step true s2 _ (h1.want w2 w3) (fun _ => rfl)

theorem room_run {s : Store} {v : AV} {F : List (Frm × List Int)} (hF : IsFrs s v F) (a b c : Int) (hc : c < 9223372036854775808) (k : Nat) (hk : 16385 ≤ k) : ∃ s', rn (k + 7) 3 [.int .i64 a, .int .i64 b, .int .i64 c, v] s = some (.bool true, s') := by
  rw [show k + 7 = (k + 6) + 1 from rfl, unisonlaw13_GatherRoom.eq]
  unfold unisonlaw13_GatherRoom.f unisonlaw13_GatherRoom.p11 unisonlaw13_GatherRoom.p10
  rw [hF.len]
  have hw' : ∀ t, rn (k + 6) 5 [] t = some (.bool true, t) := fun t => awake_rn (k + 5) t
  by_cases hn : ((F.length : Nat) : Int) > 100
  · simp only [bnd, guard_tt, guard_ff, guard_tf, guard_ft, pick_t, pick_f, if_t, if_f, add_i, sub_i, lss_i, leq_i, gtr_i, geq_i, eql_i, neq_i, min_i, max_i, conv_i, len_sl, len_nil, not_b, cells_agg, new_s, fld_p, nil_p, decide_eq_true hn, hw']
    exact ⟨_, rfl⟩
  simp only [bnd, guard_tt, guard_ff, guard_tf, guard_ft, pick_t, pick_f, if_t, if_f, add_i, sub_i, lss_i, leq_i, gtr_i, geq_i, eql_i, neq_i, min_i, max_i, conv_i, len_sl, len_nil, not_b, cells_agg, new_s, fld_p, nil_p, decide_eq_false hn]
  unfold unisonlaw13_GatherRoom.p9 unisonlaw13_GatherRoom.p8 unisonlaw13_GatherRoom.p7
  obtain ⟨s1, n1, n2, n3⟩ := gnew_run a b c (k + 5) s
  have n1' : rn (k + 6) 6 [.int .i64 a, .int .i64 b, .int .i64 c] s = some (.ptr s.next 0 12, s1) := n1
  simp only [n1', bnd, min_i, max_i]
  have hi : RoomI s s1 s.next (gnew a b c) .nilsl [] (max c (max 0 (min b 1048576))) 0 :=
    ⟨n3, n2, fun x hx => Nat.le_of_eq (show x = s.next from (by simpa [gnew] using hx)).symm, ⟨by show max 0 (min b 1048576) ≤ max c (max 0 (min b 1048576)); omega, by show max c (max 0 (min b 1048576)) < _; omega⟩, by show ((usedL [] : Nat) : Int) ≤ max c (max 0 (min b 1048576)); simp only [usedL, List.map_nil, List.sum_nil]; omega, Nat.le_refl _, rfl⟩
  exact room_loop hF (by omega) _ k hk (k + 6) 0 s1 _ _ _ (Nat.zero_le _) (by omega) hi
end Go.Proofs.Ytmkdpenpfkmfpaa.Sim
