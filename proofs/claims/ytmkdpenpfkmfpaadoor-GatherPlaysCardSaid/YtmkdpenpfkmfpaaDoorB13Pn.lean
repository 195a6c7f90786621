/- Layer 13: the law GatherPlays, its run. No condition. -/
import Derived.Test.YtmkdpenpfkmfpaaDoorB13Pm
namespace Go.Proofs.YtmkdpenpfkmfpaaDoor.Sim
set_option linter.unusedSimpArgs false
set_option linter.unusedVariables false
variable {s s' : Store} {gid : Nat} {g : GS} {pv : AV} {rr : List Nat}

theorem FrS.farP {s0 s s' : Store} {S : List Nat} (h : FrS S s s') (e : Ext s0 s) (hS : ∀ x ∈ S, s0.next ≤ x) : Ext s0 s' :=
  ⟨Nat.le_trans e.next h.next, fun l hl => (h.get l (Nat.lt_of_lt_of_le hl e.next) fun q => by have := hS l q; omega).trans (e.get l hl)⟩
/-- Behind the acts of both: the state goes on. -/
theorem PS.next {s0 s1 s2 : Store} {x14 : Nat} {lv' : AV} {L' : List PE} {i : Nat} {a' : AG} {g' : GS} {pv' : AV} {rr' : List Nat}
    (e : Ext s0 s1) (hfar : ∀ x ∈ gid :: (rr ++ (g.L.map Part.rows).flatten), s0.next ≤ x ∧ x ≠ x14) (hm : s1.get x14 = .cells (mcells a' lv') false) (hlo : s0.next ≤ x14 ∧ x14 < s1.next) (hrg : RG s1 lv' a' L') (hoff : Off (fun y => y ≠ x14 ∧ y ∉ gid :: (rr ++ (g.L.map Part.rows).flatten)) lv' L')
    (hG : IsG s2 gid g' pv' rr') (hF : FrS (gid :: (rr ++ (g.L.map Part.rows).flatten)) s1 s2) (hrows : ∀ x ∈ rr' ++ (g'.L.map Part.rows).flatten, x ∈ rr ++ (g.L.map Part.rows).flatten ∨ s1.next ≤ x) (habs : g'.abs = a') (hinv : InvA a') (hlen : g'.L.length ≤ i) : PS s0 s2 gid g' pv' rr' x14 lv' L' i := by
  have hlt := hrg.lt
  have hx14 : x14 ∉ gid :: (rr ++ (g.L.map Part.rows).flatten) := fun q => (hfar x14 q).2 rfl
  have hnew : ∀ x ∈ gid :: (rr' ++ (g'.L.map Part.rows).flatten), x ∈ gid :: (rr ++ (g.L.map Part.rows).flatten) ∨ s1.next ≤ x := fun x hx => by
    rcases List.mem_cons.1 hx with rfl | hx
    · exact .inl (by simp)
    · exact (hrows x hx).imp (fun q => List.mem_cons_of_mem _ q) (fun q => q)
  have hoff2 : ∀ y, y ≠ x14 ∧ y ∉ gid :: (rr ++ (g.L.map Part.rows).flatten) → y < s1.next → y ≠ x14 ∧ y ∉ gid :: (rr' ++ (g'.L.map Part.rows).flatten) := fun y hy hl => ⟨hy.1, fun q => by
    rcases hnew y q with q2 | q2
    · exact hy.2 q2
    · omega⟩
  refine ⟨hF.farP e fun x hx => (hfar x hx).1, hG, fun x hx => ?_, ?_, ⟨hlo.1, Nat.lt_of_lt_of_le hlo.2 hF.next⟩, ?_, ?_, by rw [habs]; exact hinv, hlen⟩
  · rcases hnew x hx with q | q
    · exact hfar x q
    · have := e.next
      exact ⟨by omega, by omega⟩
  · rw [hF.get x14 hlo.2 hx14, hm, habs]
  · rw [habs]
    exact hrg.frS hF (fun y b c d z q => (hoff.l _ _ _ _ _ q).2) fun x hx => ⟨fun y b c d z q => ((hoff.e x hx).1 _ _ _ _ _ q).2, fun y b c d z q => ((hoff.e x hx).2 _ _ _ _ _ q).2⟩
  · refine ⟨fun y b c d z q => hoff2 y (hoff.l _ _ _ _ _ q) (hlt.l _ _ _ _ _ q), fun x hx => ⟨fun y b c d z q => hoff2 y ((hoff.e x hx).1 _ _ _ _ _ q) ((hlt.e x hx).1 _ _ _ _ _ q), fun y b c d z q => hoff2 y ((hoff.e x hx).2 _ _ _ _ _ q) ((hlt.e x hx).2 _ _ _ _ _ q)⟩⟩
/-- The document's gatherer is stored, by way of another row. -/
theorem store_m {s0 s1 : Store} {x14 : Nat} {lv' : AV} {L' : List PE} {a a' : AG} {lv : AV} (e : Ext s0 s1) (hm : s1.get x14 = .cells (mcells a lv) false) (hc : a.counts.length = 6) (hlo : s0.next ≤ x14 ∧ x14 < s1.next) (hrg : RG s1 lv' a' L') (ho : Off (fun y => y ≠ x14) lv' L') :
    ∃ s2, (∀ {α : Type} (K : Store → Option α), (aStore 12 (.ptr s1.next 0 12) (.agg (mcells a' lv')) (s1.push (.cells zero12 false)) fun s11 => aLoadN 12 (.ptr s1.next 0 12) s11 fun v12 => aStore 12 (.ptr x14 0 12) v12 s11 fun s13 => K s13) = K s2) ∧ s2.get x14 = .cells (mcells a' lv') false ∧ Ext s0 s2 ∧ RG s2 lv' a' L' ∧ FrS [x14] s1 s2 := by
  have hcn := hrg.cnt
  have g1 : (s1.push (.cells zero12 false)).get s1.next = .cells zero12 false := by rw [get_push, if_pos rfl]
  have hst := fun {α : Type} (K : Store → Option α) => st12 g1 zero12_len (vs := mcells a' lv') (mcells_len hcn) K
  obtain ⟨t, ht⟩ : ∃ t : Store, t = (s1.push (.cells zero12 false)).set s1.next (.cells (mcells a' lv') false) := ⟨_, rfl⟩
  have gt : t.get s1.next = .cells (mcells a' lv') false := by rw [ht, get_set, if_pos rfl]
  have nt : t.next = s1.next + 1 := by rw [ht]; rfl
  have E1 : Ext s1 t := ⟨by omega, fun l hl => by rw [ht, get_set, if_neg (by omega), get_push, if_neg (by omega)]⟩
  have hld := fun {α : Type} (K : AV → Option α) => m_all gt hcn K
  have hmt := (E1.get x14 hlo.2).trans hm
  have hst2 := fun {α : Type} (K : Store → Option α) => st12 hmt (mcells_len hc) (vs := mcells a' lv') (mcells_len hcn) K
  have hF : FrS [x14] t (t.set x14 (.cells (mcells a' lv') false)) := (Fr1.set _ _ _).frS (by simp)
  refine ⟨t.set x14 (.cells (mcells a' lv') false), fun K => ?_, by rw [get_set, if_pos rfl], ⟨by have := e.next; show s0.next ≤ t.next; omega, fun l hl => by rw [get_set, if_neg (by omega), E1.get l (by have := e.next; omega)]; exact e.get l hl⟩, (hrg.ext E1).frS hF (fun y b c d z q => by have := ho.l _ _ _ _ _ q; simpa using this) fun x hx => ⟨fun y b c d z q => by have := (ho.e x hx).1 _ _ _ _ _ q; simpa using this, fun y b c d z q => by have := (ho.e x hx).2 _ _ _ _ _ q; simpa using this⟩, (E1.frS [x14]).trans hF fun l hl => .inl hl⟩
  rw [hst, ← ht, hld, hst2]

theorem plays_loop {s0 : Store} {v3 : AV} {A : List Act13} {x10 x14 : Nat} {id : Int × Int} {what : Int} (hA : IsActs13 s0 v3 A) (hAl : A.length ≤ 100) (ht : HasTab s0) (h10 : s0.get x10 = .cells (idc id) false) (hl10 : x10 < s0.next) (hw : 0 ≤ what ∧ what < 256) (fu : Nat) (hfu : 1048577 < fu) : ∀ (m i : Nat) (s : Store) (g : GS) (pv : AV) (rr : List Nat) (lv : AV) (L : List PE), i ≤ A.length → A.length - i < m → PS s0 s gid g pv rr x14 lv L i →
    ∃ s', unisonlaw13_GatherPlays.l0 (fu + 9) m v3 (.int .u8 what) (.ptr x10 0 2) (.ptr gid 0 12) (.ptr x14 0 12) (.int .i64 (i : Int)) s = some (.bool true, s')
  | 0, i, s, g, pv, rr, lv, L, _, hm, _ => by omega
  | m + 1, i, s, g, pv, rr, lv, L, hi, hm, h => by
    have hsx : unisonlaw13_GatherPlays.l0 (fu + 9) (m + 1) = fun x3 x5 x10 x13 x14 x15 s => unisonlaw13_GatherPlays.p10 (fu + 9) (unisonlaw13_GatherPlays.l0 (fu + 9) m) x3 x5 x10 x13 x14 x15 s := rfl
    rw [hsx]
    clear hsx
    simp only
    unfold unisonlaw13_GatherPlays.p10
    rw [hA.len]
    have hw' : ∀ t, rn (fu + 9) 5 [] t = some (.bool true, t) := fun t => awake_rn (fu + 8) t
    by_cases hlt : i < A.length
    rotate_left
    · unfold unisonlaw13_GatherPlays.p0
      simp only [bnd, guard_tt, guard_ff, guard_tf, guard_ft, pick_t, pick_f, if_t, if_f, add_i, sub_i, lss_i, leq_i, gtr_i, geq_i, eql_i, neq_i, min_i, max_i, conv_i, len_sl, len_nil, not_b, cells_agg, new_s, fld_p, nil_p, decide_eq_false (show ¬ (i : Int) < ((A.length : Nat) : Int) by omega), hw']
      exact ⟨_, rfl⟩
    simp only [lss_i, decide_eq_true (show (i : Int) < ((A.length : Nat) : Int) by omega), if_t]
    unfold unisonlaw13_GatherPlays.p9
    obtain ⟨p, p1, p2, p3⟩ := (hA.ext h.ext).at hlt
    obtain ⟨_, _, _, hfr0⟩ := hA.at hlt
    generalize A[i] = act at p2 p3 hfr0
    obtain ⟨zs, hzs⟩ : ∃ zs : List AV, zs = [AV.int .i64 0, AV.int .u8 0, AV.int .u8 0, AV.int .u8 0, AV.int .u8 0, AV.int .u64 0, AV.int .u64 0, AV.int .u32 0, AV.int .u32 0, AV.int .u32 0, AV.int .u64 0, AV.int .u64 0, AV.nilsl, AV.nilsl, AV.nilsl, AV.nilsl, AV.nilsl] := ⟨_, rfl⟩
    have hzl : zs.length = 17 := by rw [hzs]; rfl
    have hst : ∀ {α : Type} (c : Store → Option α), aStore 17 (.ptr s.next 0 17) (.agg (acells act)) (s.push (.cells zs false)) c = c ((s.push (.cells zs false)).set s.next (.cells (acells act) false)) := fun c => st_all (by rw [get_push, if_pos rfl]) hzl rfl c
    simp only [p1, p2, ← hzs, new_s, hzl, hst]
    have e1 : Ext s ((s.push (.cells zs false)).set s.next (.cells (acells act) false)) := ⟨Nat.le_succ _, fun l hl => by rw [get_set, if_neg (by omega), get_push, if_neg (by omega)]⟩
    have g1 : ((s.push (.cells zs false)).set s.next (.cells (acells act) false)).get s.next = .cells (acells act) false := by rw [get_set, if_pos rfl]
    have n1 : ((s.push (.cells zs false)).set s.next (.cells (acells act) false)).next = s.next + 1 := rfl
    generalize (s.push (.cells zs false)).set s.next (.cells (acells act) false) = s1 at e1 g1 n1 ⊢
    have h1 := h.ext' e1
    unfold unisonlaw13_GatherPlays.p8
    obtain ⟨b, s2, b1, b2⟩ := great6_run' (hfr0.ext h1.ext) (fu + 8)
    have b1' : rn (fu + 9) 8 [.agg act.2.1.cells] s1 = some (.bool b, s2) := b1
    simp only [bnd, guard_tt, guard_ff, guard_tf, guard_ft, pick_t, pick_f, if_t, if_f, add_i, sub_i, lss_i, leq_i, gtr_i, geq_i, eql_i, neq_i, min_i, max_i, conv_i, len_sl, len_nil, not_b, cells_agg, new_s, fld_p, nil_p, a_frm g1, b1']
    cases b
    rotate_left
    · simp only [bnd, guard_tt, guard_ff, guard_tf, guard_ft, pick_t, pick_f, if_t, if_f, add_i, sub_i, lss_i, leq_i, gtr_i, geq_i, eql_i, neq_i, min_i, max_i, conv_i, len_sl, len_nil, not_b, cells_agg, new_s, fld_p, nil_p, guard_skip, hw']
      exact ⟨_, rfl⟩
    have h2 := h1.ext' b2
    have g2 := (b2.get s.next (by omega)).trans g1
    have n2 : s.next < s2.next := Nat.lt_of_lt_of_le (by omega) b2.next
    have e2 := e1.trans b2
    simp only [bnd, guard_tt, guard_ff, guard_tf, guard_ft, pick_t, pick_f, if_t, if_f, add_i, sub_i, lss_i, leq_i, gtr_i, geq_i, eql_i, neq_i, min_i, max_i, conv_i, len_sl, len_nil, not_b, cells_agg, new_s, fld_p, nil_p, a_size g2]
    cases decide (act.2.1.size > 5000)
    rotate_left
    · simp only [bnd, guard_tt, guard_ff, guard_tf, guard_ft, pick_t, pick_f, if_t, if_f, add_i, sub_i, lss_i, leq_i, gtr_i, geq_i, eql_i, neq_i, min_i, max_i, conv_i, len_sl, len_nil, not_b, cells_agg, new_s, fld_p, nil_p, hw']
      exact ⟨_, rfl⟩
    simp only [bnd, guard_tt, guard_ff, guard_tf, guard_ft, pick_t, pick_f, if_t, if_f, add_i, sub_i, lss_i, leq_i, gtr_i, geq_i, eql_i, neq_i, min_i, max_i, conv_i, len_sl, len_nil, not_b, cells_agg, new_s, fld_p, nil_p]
    -- behind the act
    have go : ∀ (t : Store) (g' : GS) (pv' : AV) (rr' : List Nat) (lv' : AV) (L' : List PE), PS s0 t gid g' pv' rr' x14 lv' L' (i + 1) → t.get s.next = .cells (acells act) false → s.next < t.next →
        ∃ s', unisonlaw13_GatherPlays.p5 (fu + 9) (unisonlaw13_GatherPlays.l0 (fu + 9) m) v3 (.int .u8 what) (.ptr x10 0 2) (.ptr gid 0 12) (.ptr x14 0 12) (.int .i64 (i : Int)) (.ptr s.next 0 17) t = some (.bool true, s') := by
      intro t g' pv' rr' lv' L' hP h16 hl16
      obtain ⟨t2, k1, k2⟩ := look_run (a := act) (v3 := v3) (j := i) hP (by omega) (ht.ext hP.ext) ((hP.ext.get _ hl10).trans h10) (Nat.lt_of_lt_of_le hl10 hP.ext.next) h16 hl16 hw fu hfu (unisonlaw13_GatherPlays.l0 (fu + 9) m)
      rw [k1]
      unfold unisonlaw13_GatherPlays.p1
      have hw1 : IntKind.i64.wrap ((i : Int) + 1) = ((i + 1 : Nat) : Int) := by rw [w_i64 (by omega) (by omega)]; omega
      simp only [bnd, guard_tt, guard_ff, guard_tf, guard_ft, pick_t, pick_f, if_t, if_f, add_i, sub_i, lss_i, leq_i, gtr_i, geq_i, eql_i, neq_i, min_i, max_i, conv_i, len_sl, len_nil, not_b, cells_agg, new_s, fld_p, nil_p, hw1]
      exact plays_loop hA hAl ht h10 hl10 hw fu hfu m (i + 1) t2 g' pv' rr' lv' L' (by omega) (by omega) (hP.ext' k2)
    have hlen := h.len
    have hcn : g.abs.counts.length = 6 := h.inv.cnt
    have hLl : L.length = g.L.length := by rw [h.rg.len]; simp [GS.abs]
    have hrl := h2.isG.rows_lt
    have hgl : g.abs.L.length = g.L.length := by simp [GS.abs]
    have hfs : s.next ∉ gid :: (rr ++ (g.L.map Part.rows).flatten) := fun q => Nat.lt_irrefl _ (h.isG.rows_lt _ q)
    have hne14 : s.next ≠ x14 := fun q => by have := h.lo.2; omega
    have hQ : ∀ y, s2.next ≤ y → y ≠ x14 ∧ y ∉ gid :: (rr ++ (g.L.map Part.rows).flatten) := fun y hy => ⟨fun q => by have := h2.lo.2; omega, fun q => by have := hrl _ q; omega⟩
    unfold unisonlaw13_GatherPlays.p7 unisonlaw13_GatherPlays.p6
    have mall := fun {α : Type} (c : AV → Option α) => m_all h2.m hcn c
    have he0 : ∀ {α : Type} (x y : AV) (c : AV → Option α), aExtract 0 (.tuple [x, y]) c = c x := fun x y c => rfl
    have he1 : ∀ {α : Type} (x y : AV) (c : AV → Option α), aExtract 1 (.tuple [x, y]) c = c y := fun x y c => rfl
    have hg0 : ∀ {α : Type} (x y z : AV) (c : AV → Option α), aExtract 0 (.tuple [x, y, z]) c = c x := fun x y z c => rfl
    have hg1 : ∀ {α : Type} (x y z : AV) (c : AV → Option α), aExtract 1 (.tuple [x, y, z]) c = c y := fun x y z c => rfl
    have hg2 : ∀ {α : Type} (x y z : AV) (c : AV → Option α), aExtract 2 (.tuple [x, y, z]) c = c z := fun x y z c => rfl
    simp only [fld_p, a_kind g2, eql_i]
    by_cases hk0 : act.1 = 0
    · -- a frame is put
      have hd0 := hfr0.dat.ext h2.ext
      have hR := rput_run hQ h2.rg h2.off (by omega) hfr0.wf hfr0.id1 hd0 h.inv.chunk ⟨h.inv.most, h.inv.room⟩ h.inv.fit (fu + 5) (by omega)
      obtain ⟨lv', L', s3, r1, r2, r3, r4⟩ := hR
      have r1' : rn (fu + 9) 9 [.agg (mcells g.abs lv), .agg act.2.1.cells] s2 = _ := r1
      have e3 := h2.ext.trans r3
      have hm3 := (r3.get x14 h2.lo.2).trans h2.m
      have hlo3 : s0.next ≤ x14 ∧ x14 < s3.next := ⟨h2.lo.1, Nat.lt_of_lt_of_le h2.lo.2 r3.next⟩
      obtain ⟨s4, k1, k2, k3, k4, k5⟩ := store_m e3 hm3 hcn hlo3 r2 (r4.mono fun y hy => hy.1)
      have hz : (act.1 == 0) = true := by simpa using hk0
      have g3 := (r3.get s.next n2).trans g2
      have g4 := (k5.get s.next (Nat.lt_of_lt_of_le n2 r3.next) (by simpa using hne14)).trans g3
      have hG4 : IsG s4 gid g pv rr := (h2.isG.ext r3).keep k5.next fun x hx => k5.get x (Nat.lt_of_lt_of_le (hrl x hx) r3.next) (by have := (h.far x hx).2; simpa using this)
      have hd4 := hfr0.dat.ext k3
      obtain ⟨s5, v, g', pv', rr', made, c1, c2⟩ := put_run hG4 (by omega) hfr0.wf hfr0.id1 hd4 (fun y b c d z q q2 => by
        have h8 := hfr0.dat.lt _ _ _ _ _ q
        have h9 := (h.far _ q2).1
        omega) ⟨h.inv.most, h.inv.room⟩ (fu + 3) (by omega) (by omega)
      have c1' : rn (fu + 9) 10 [.ptr gid 0 12, .agg act.2.1.cells] s4 = _ := c1
      have hsv : ∀ {α : Type} (c : AV → Option α), aStrOf v s5 c = c (.str (strOf (putA g.abs act.2.1 act.2.2).2.1)) := fun {α} c => by
        by_cases hm5 : made = 5
        · obtain ⟨ix, q1, q2, q3⟩ := c2.out.2 hm5
          exact strV (.inr ⟨ix, 0, _, false, q1, q2, q3, by simp, by simp⟩) c
        · obtain ⟨q1, q2⟩ := c2.out.1 hm5
          rw [q1, q2]
          rfl
      have hmd : (((made : Nat) : Int) != (((putA g.abs act.2.1 act.2.2).2.2 : Nat) : Int)) = false := by rw [c2.eqm]; simp
      simp only [hz, if_t, mall, bnd, guard_tt, guard_ff, guard_tf, guard_ft, pick_t, pick_f, if_t, if_f, add_i, sub_i, lss_i, leq_i, gtr_i, geq_i, eql_i, neq_i, min_i, max_i, conv_i, len_sl, len_nil, not_b, cells_agg, new_s, fld_p, nil_p, a_frm g2, r1', hg0, hg1, hg2, zero12_eq, zero12_len, k1, a_frm g4, c1', he0, he1, hsv, ne_str_same, hmd]
      refine go s5 g' pv' rr' lv' L' (PS.next (g := g) (rr := rr) k3 h.far k2 ⟨hlo3.1, Nat.lt_of_lt_of_le hlo3.2 k5.next⟩ k4 r4 c2.isG c2.fr c2.rows c2.abs (putA_inv h.inv hfr0.wf) ?_) ?_ ?_
      · have := putA_len g.abs act.2.1 act.2.2
        rw [← c2.abs] at this
        have h9 : g'.abs.L.length = g'.L.length := by simp [GS.abs]
        omega
      · rw [c2.fr.get s.next (Nat.lt_of_lt_of_le (Nat.lt_of_lt_of_le n2 r3.next) k5.next) hfs]
        exact g4
      · exact Nat.lt_of_lt_of_le (Nat.lt_of_lt_of_le (Nat.lt_of_lt_of_le n2 r3.next) k5.next) c2.fr.next
    have hz0 : (act.1 == 0) = false := by simpa using hk0
    by_cases hk1 : act.1 = 1
    · -- an id is wanted
      have hz1 : (act.1 == 1) = true := by simpa using hk1
      have hst2 : ∀ {α : Type} (c : Store → Option α), aStore 2 (.ptr x14 (0 + 4) 12) (.agg (idc act.2.1.id)) s2 c = c (s2.set x14 (.cells (mcells { g.abs with wanted := act.2.1.id } lv) false)) := fun c => by
        have hml := mcells_len (lv := lv) hcn
        have hp : putAll (mcells g.abs lv) (0 + 4) (idc act.2.1.id) = mcells { g.abs with wanted := act.2.1.id } lv := rfl
        simp only [aStore, aCells, aOwn, h2.m, hml, if_true]
        rw [if_pos ⟨rfl, by omega⟩, hp]
      have hF3 : FrS [x14] s2 (s2.set x14 (.cells (mcells { g.abs with wanted := act.2.1.id } lv) false)) := (Fr1.set _ _ _).frS (by simp)
      have hm3 : (s2.set x14 (.cells (mcells { g.abs with wanted := act.2.1.id } lv) false)).get x14 = .cells (mcells { g.abs with wanted := act.2.1.id } lv) false := by rw [get_set, if_pos rfl]
      have hE3 : Ext s0 (s2.set x14 (.cells (mcells { g.abs with wanted := act.2.1.id } lv) false)) := hF3.farP h2.ext fun x hx => by rw [List.mem_singleton.1 hx]; exact h.lo.1
      have hrg3 : RG (s2.set x14 (.cells (mcells { g.abs with wanted := act.2.1.id } lv) false)) lv { g.abs with wanted := act.2.1.id } L := (h2.rg.frS hF3 (fun y b c d z q => by have := (h2.off.l _ _ _ _ _ q).1; simpa using this) fun x hx => ⟨fun y b c d z q => by have := ((h2.off.e x hx).1 _ _ _ _ _ q).1; simpa using this, fun y b c d z q => by have := ((h2.off.e x hx).2 _ _ _ _ _ q).1; simpa using this⟩).same rfl rfl hcn
      have n3 : (s2.set x14 (.cells (mcells { g.abs with wanted := act.2.1.id } lv) false)).next = s2.next := rfl
      have hG3 : IsG (s2.set x14 (.cells (mcells { g.abs with wanted := act.2.1.id } lv) false)) gid g pv rr := h2.isG.keep (Nat.le_refl _) fun x hx => by rw [get_set, if_neg (h.far x hx).2]
      have g3 : (s2.set x14 (.cells (mcells { g.abs with wanted := act.2.1.id } lv) false)).get s.next = .cells (acells act) false := by rw [get_set, if_neg hne14]; exact g2
      simp only [hz0, if_f, hz1, if_t, bnd, guard_tt, guard_ff, guard_tf, guard_ft, pick_t, pick_f, if_t, if_f, add_i, sub_i, lss_i, leq_i, gtr_i, geq_i, eql_i, neq_i, min_i, max_i, conv_i, len_sl, len_nil, not_b, cells_agg, new_s, fld_p, nil_p, a_id g2, hst2]
      generalize (s2.set x14 (.cells (mcells { g.abs with wanted := act.2.1.id } lv) false)) = s3 at hF3 hm3 hE3 hrg3 n3 hG3 g3 ⊢
      obtain ⟨s4, w1, w2, w3⟩ := want_run hG3 act.2.1.id (fu + 8)
      have w1' : rn (fu + 9) 11 [.ptr gid 0 12, .agg (idc act.2.1.id)] s3 = _ := w1
      simp only [fld_p, a_id g3, w1', bnd]
      refine go s4 { g with wanted := act.2.1.id } pv rr lv L (PS.next (g := g) (rr := rr) hE3 h.far hm3 ⟨h.lo.1, by have := h2.lo.2; omega⟩ hrg3 h2.off w2 ⟨w3.next, fun l hl hn => w3.get l hl fun q => hn (by rw [q]; simp)⟩ (fun x hx => .inl hx) rfl ⟨h.inv.chunk, h.inv.most, h.inv.room, h.inv.cnt, h.inv.nodup, h.inv.fit, h.inv.open_⟩ (by show g.L.length ≤ _; omega)) ?_ ?_
      · rw [w3.get s.next (by omega) (fun q => hfs (by rw [q]; simp))]
        exact g3
      · exact Nat.lt_of_lt_of_le (by omega) w3.next
    -- a part is dropped
    have hz1 : (act.1 == 1) = false := by simpa using hk1
    obtain ⟨lv', L', s3, r1, r2, r3, r4⟩ := rdrop_run h2.rg (by omega) act.2.1.id (fu + 7) (by omega)
    have r1' : rn (fu + 9) 12 [.agg (mcells g.abs lv), .agg (idc act.2.1.id)] s2 = _ := r1
    have r4' := r4 _ hQ h2.off
    have e3 := h2.ext.trans r3
    have hm3 := (r3.get x14 h2.lo.2).trans h2.m
    have hlo3 : s0.next ≤ x14 ∧ x14 < s3.next := ⟨h2.lo.1, Nat.lt_of_lt_of_le h2.lo.2 r3.next⟩
    obtain ⟨s4, k1, k2, k3, k4, k5⟩ := store_m e3 hm3 hcn hlo3 r2 (r4'.mono fun y hy => hy.1)
    have g3 := (r3.get s.next n2).trans g2
    have g4 := (k5.get s.next (Nat.lt_of_lt_of_le n2 r3.next) (by simpa using hne14)).trans g3
    have hG4 : IsG s4 gid g pv rr := (h2.isG.ext r3).keep k5.next fun x hx => k5.get x (Nat.lt_of_lt_of_le (hrl x hx) r3.next) (by have := (h.far x hx).2; simpa using this)
    have e5 := Ext.push s4 (.cells (idc act.2.1.id) false)
    have hb : ∀ {α : Type} (c : List AV → Option α), aBuild [(0, 2, .agg (idc act.2.1.id))] [AV.int .u8 0, AV.int .u64 0] c = c (idc act.2.1.id) := fun c => rfl
    have hl5 : IsL idc 2 (s4.push (.cells (idc act.2.1.id) false)) (.sl s4.next 0 1 2 2) [act.2.1.id] := .inr ⟨s4.next, false, rfl, Nat.lt_succ_self _, by rw [get_push, if_pos rfl]; rfl⟩
    have hrl4 := hG4.rows_lt
    obtain ⟨s6, g', pv', d1, d2, d3, d4, d5⟩ := drop_run (hG4.ext e5) (by omega) (x := act.2.1.id) (by have := h.inv.nodup; rw [show g.abs.L = g.L.map Part.abs from rfl, List.map_map] at this; exact this) hl5 (fun y b c d z q q2 => by
      injection q with q
      have := hrl4 y q2
      omega) (fu + 1) (by omega)
    have d1' : rn (fu + 9) 13 [.ptr gid 0 12, .sl s4.next 0 1 2 2] (s4.push (.cells (idc act.2.1.id) false)) = _ := d1
    have hnn : ((((dropA g.abs act.2.1.id).2 : Nat) : Int) != (((dropA g.abs act.2.1.id).2 : Nat) : Int)) = false := by simp
    simp only [hz0, if_f, hz1, mall, bnd, guard_tt, guard_ff, guard_tf, guard_ft, pick_t, pick_f, if_t, if_f, add_i, sub_i, lss_i, leq_i, gtr_i, geq_i, eql_i, neq_i, min_i, max_i, conv_i, len_sl, len_nil, not_b, cells_agg, new_s, fld_p, nil_p, a_id g2, r1', he0, he1, zero12_eq, zero12_len, k1, a_id g4, hb, d1', hnn]
    have hF6 : FrS (gid :: (rr ++ (g.L.map Part.rows).flatten)) s4 s6 := (e5.frS _).trans ⟨d4.next, fun l hl hn => d4.get l hl fun q => hn (by
      rcases List.mem_cons.1 q with q2 | q2
      · rw [q2]; simp
      · exact List.mem_cons_of_mem _ (List.mem_append_left _ q2))⟩ fun l hl => .inl hl
    refine go s6 g' pv' rr lv' L' (PS.next (g := g) (rr := rr) k3 h.far k2 ⟨hlo3.1, Nat.lt_of_lt_of_le hlo3.2 k5.next⟩ k4 r4' d2 hF6 (fun x hx => .inl ?_) d3 (dropA_inv h.inv).1 ?_) ?_ ?_
    · rcases List.mem_append.1 hx with q | q
      · exact List.mem_append_left _ q
      · exact List.mem_append_right _ (d5 x q)
    · have h8 := (dropA_inv (x := act.2.1.id) h.inv).2
      rw [← d3] at h8
      have h9 : g'.abs.L.length = g'.L.length := by simp [GS.abs]
      omega
    · rw [hF6.get s.next (Nat.lt_of_lt_of_le (Nat.lt_of_lt_of_le n2 r3.next) k5.next) hfs]
      exact g4
    · exact Nat.lt_of_lt_of_le (Nat.lt_of_lt_of_le (Nat.lt_of_lt_of_le n2 r3.next) k5.next) hF6.next

theorem plays_run13 {s : Store} {v3 : AV} {A : List Act13} (hA : IsActs13 s v3 A) (ht : HasTab s) (a b c : Int) (hc : c < 9223372036854775808) {id : Int × Int} {what : Int} (hw : 0 ≤ what ∧ what < 256) (fu : Nat) (hfu : 1048577 < fu) :
    ∃ s', rn (fu + 10) 3 [.int .i64 a, .int .i64 b, .int .i64 c, v3, .agg (idc id), .int .u8 what] s = some (.bool true, s') := by
  rw [show fu + 10 = (fu + 9) + 1 from rfl, unisonlaw13_GatherPlays.eq]
  unfold unisonlaw13_GatherPlays.f unisonlaw13_GatherPlays.p14 unisonlaw13_GatherPlays.p13
  have e1 := Ext.push s (.cells (idc id) false)
  have g1 : (s.push (.cells (idc id) false)).get s.next = .cells (idc id) false := by rw [get_push, if_pos rfl]
  have n1 : s.next < (s.push (.cells (idc id) false)).next := Nat.lt_succ_self _
  have hl2 : (idc id).length = 2 := rfl
  simp only [cells_agg, new_s, hl2]
  generalize s.push (.cells (idc id) false) = s1 at e1 g1 n1 ⊢
  rw [hA.len]
  have hw' : ∀ t, rn (fu + 9) 5 [] t = some (.bool true, t) := fun t => awake_rn (fu + 8) t
  by_cases hn : ((A.length : Nat) : Int) > 100
  · simp only [bnd, guard_tt, guard_ff, guard_tf, guard_ft, pick_t, pick_f, if_t, if_f, add_i, sub_i, lss_i, leq_i, gtr_i, geq_i, eql_i, neq_i, min_i, max_i, conv_i, len_sl, len_nil, not_b, cells_agg, new_s, fld_p, nil_p, decide_eq_true hn, hw']
    exact ⟨_, rfl⟩
  simp only [bnd, guard_tt, guard_ff, guard_tf, guard_ft, pick_t, pick_f, if_t, if_f, add_i, sub_i, lss_i, leq_i, gtr_i, geq_i, eql_i, neq_i, min_i, max_i, conv_i, len_sl, len_nil, not_b, cells_agg, new_s, fld_p, nil_p, decide_eq_false hn]
  unfold unisonlaw13_GatherPlays.p12 unisonlaw13_GatherPlays.p11
  obtain ⟨s2, m1, m2, m3⟩ := gnew_run a b c (fu + 8) s1
  have m1' : rn (fu + 9) 6 [.int .i64 a, .int .i64 b, .int .i64 c] s1 = _ := m1
  obtain ⟨s3, k1, k2⟩ := rnew_run a b c (fu + 7) s2
  have k1' : rn (fu + 9) 7 [.int .i64 a, .int .i64 b, .int .i64 c] s2 = _ := k1
  have hcn : (gnew a b c).abs.counts.length = 6 := rfl
  have g3 : (s3.push (.cells zero12 false)).get s3.next = .cells zero12 false := by rw [get_push, if_pos rfl]
  have hst := fun {α : Type} (K : Store → Option α) => st12 g3 zero12_len (vs := mcells (gnew a b c).abs .nilsl) (mcells_len hcn) K
  simp only [m1', bnd, k1', zero12_eq, zero12_len, new_s, hst]
  obtain ⟨t, htt⟩ : ∃ t : Store, t = (s3.push (.cells zero12 false)).set s3.next (.cells (mcells (gnew a b c).abs .nilsl) false) := ⟨_, rfl⟩
  have gt : t.get s3.next = .cells (mcells (gnew a b c).abs .nilsl) false := by rw [htt, get_set, if_pos rfl]
  have nt : t.next = s3.next + 1 := by rw [htt]; rfl
  have E1 : Ext s3 t := ⟨by omega, fun l hl => by rw [htt, get_set, if_neg (by omega), get_push, if_neg (by omega)]⟩
  rw [← htt]
  have hG2 := m2.lt
  have hgs : ∀ x ∈ s1.next :: (([] : List Nat) ++ ((gnew a b c).L.map Part.rows).flatten), x = s1.next := fun x hx => by simpa [gnew] using hx
  have hP : PS s1 t s1.next (gnew a b c) .nilsl [] s3.next .nilsl [] 0 := by
    refine ⟨(m3.trans k2).trans E1, m2.ext (k2.trans E1), fun x hx => ?_, gt, ⟨(m3.trans k2).next, by omega⟩, ⟨.inl ⟨rfl, rfl⟩, rfl, (fun e he => absurd he (List.not_mem_nil)), rfl⟩, ⟨(fun y b c d z q => by cases q), (fun e he => absurd he (List.not_mem_nil))⟩, ⟨?_, ?_, ?_, rfl, List.nodup_nil, (fun q hq => absurd hq (List.not_mem_nil)), (fun q hq => absurd hq (List.not_mem_nil))⟩, Nat.le_refl _⟩
    · rw [hgs x hx]
      have := k2.next
      exact ⟨Nat.le_refl _, by omega⟩
    · show 1 ≤ max 1 (min a 65536) ∧ max 1 (min a 65536) ≤ 65536
      omega
    · show max 0 (min b 1048576) ≤ max c (max 0 (min b 1048576))
      omega
    · show max c (max 0 (min b 1048576)) < _
      omega
  exact plays_loop (gid := s1.next) (hA.ext e1) (by omega) (ht.ext e1) g1 n1 hw fu hfu (fu + 9) 0 t _ _ _ _ _ (Nat.zero_le _) (by omega) hP
end Go.Proofs.YtmkdpenpfkmfpaaDoor.Sim
