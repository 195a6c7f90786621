/- Layer 13: the document's Put, whole. No condition. -/
import Derived.Test.YtmkdpenpfkmfpaaDoorB13Pi
namespace Go.Proofs.YtmkdpenpfkmfpaaDoor.Sim
set_option linter.unusedSimpArgs false
set_option linter.unusedVariables false
variable {s s' : Store}

/-- A new part, and the chunk in it. -/
theorem rnew_put {Q : Nat → Prop} {s0 t : Store} {x2 x3 x4 : Nat} {f : Frm} {lv : AV} {a : AG} {L : List PE} (h : PW Q s0 t x2 x3 x4 f lv a L) (hL : L.length ≤ 800000) (hw : f.Wf) {d : List Int} (hd : IsV s0 f.dv .u8 d) (hc : 1 ≤ a.chunk ∧ a.chunk ≤ 65536) (hr : rightB f a.chunk a.most d.length = true) (fu : Nat) (hfu : 1048577 < fu) :
    ResR Q s0 (unisonref13_G_Put.p22 (fu + 1) (.ptr x2 0 12) (.ptr x3 0 16) (.ptr x4 0 12) t) (layA { a with L := a.L ++ [AP.new f] } a.L.length f d) := by
  obtain ⟨r1, r2, r3, r4, r5, r6, r7, r8, r9, r10⟩ := right_of hr hw
  have hz0 := hw.size0
  have hd0 := hd
  obtain ⟨hx, hm, hfr, hz, hrg, hlo, hol, hoe, hoq, hnq⟩ := h
  have hcn := hrg.cnt
  have hd := hd0.ext hx
  unfold unisonref13_G_Put.p22 unisonref13_G_Put.p21
  have ldi : ∀ {α : Type} (c : AV → Option α), aLoadN 2 (.ptr x3 (0 + 3) 16) t c = c (.agg [.int .u8 f.id.1, .int .u64 f.id.2]) := fun {α} c => load_n hfr rfl (by show 3 + 2 ≤ 16; decide)
  have ld8 : ∀ {α : Type} (c : AV → Option α), aLoad1 (.ptr x3 (0 + 8) 16) t c = c (.int .u32 f.size) := fun c => g_ld hfr rfl rfl c
  have w8 : IntKind.i64.wrap f.size = f.size := w_i64 (by omega) (by omega)
  have hb : ∀ {α : Type} (c : List AV → Option α), aBuild [(0, 2, .agg [.int .u8 f.id.1, .int .u64 f.id.2]), (2, 1, .int .i64 f.size)] zero5 c = c (pcl ⟨AP.new f, .nilsl, .nilsl⟩) := fun c => by
    have : pcl ⟨AP.new f, .nilsl, .nilsl⟩ = [.int .u8 f.id.1, .int .u64 f.id.2, .int .i64 f.size, .nilsl, .nilsl] := by
      show [AV.int .u8 f.id.1, AV.int .u64 f.id.2, AV.int .i64 (((List.replicate f.size.toNat (0 : Int)).length : Nat) : Int), AV.nilsl, AV.nilsl] = _
      rw [List.length_replicate, Int.toNat_of_nonneg hz0.1]
    rw [this]
    rfl
  rw [zero5_eq]
  have g1 : (t.push (.cells zero5 false)).get t.next = .cells zero5 false := by rw [get_push, if_pos rfl]
  have hst1 := fun {α : Type} (c : Store → Option α) => st_all (s := t.push (.cells zero5 false)) g1 zero5_len (vs := pcl ⟨AP.new f, .nilsl, .nilsl⟩) rfl c
  simp only [bnd, guard_tt, guard_ff, guard_tf, guard_ft, pick_t, pick_f, if_t, if_f, add_i, sub_i, lss_i, leq_i, gtr_i, geq_i, eql_i, neq_i, min_i, max_i, conv_i, len_sl, len_nil, not_b, cells_agg, new_s, fld_p, nil_p, ldi, ld8, w8, hb, zero5_len, hst1]
  obtain ⟨t1, ht1⟩ : ∃ x : Store, x = (t.push (.cells zero5 false)).set t.next (.cells (pcl ⟨AP.new f, .nilsl, .nilsl⟩) false) := ⟨_, rfl⟩
  have x1 : t1.get t.next = .cells (pcl ⟨AP.new f, .nilsl, .nilsl⟩) false := by rw [ht1, get_set, if_pos rfl]
  have m1 : t1.next = t.next + 1 := by rw [ht1]; rfl
  have E1 : Ext t t1 := ⟨by omega, fun l hl => by rw [ht1, get_set, if_neg (by omega), get_push, if_neg (by omega)]⟩
  rw [← ht1]
  clear ht1 hst1 g1
  obtain ⟨n, hn⟩ : ∃ n : Nat, f.of = (n : Int) := ⟨f.of.toNat, by have := hw.of0; omega⟩
  have hfit : FitQ a.chunk (AP.new f) := FitQ.new r3 ⟨hz0.1, r8⟩ hc
  have hqn : (AP.new f).n = n := by
    have := hfit.n
    have hbl : ((AP.new f).b.length : Int) = f.size := by
      show (((List.replicate f.size.toNat (0 : Int)).length : Nat) : Int) = _
      rw [List.length_replicate, Int.toNat_of_nonneg hz0.1]
    rw [hbl, ← r3, hn] at this
    omega
  have hn1 : n ≤ 1048576 := by have := hfit.top hc; omega
  obtain ⟨hv', cv', t2, k1, k2, k3, k4, k5, k6, k7, k8⟩ := new_loop (t0 := t) (x2 := x2) (x4 := x4) (q := AP.new f) hn hn1 (fu + 1) (fu + 1) 0 t1 .nilsl .nilsl [] [] (Nat.zero_le _) (by omega) ((E1.get _ (by omega)).trans hfr) (by omega) (by omega) x1 (.inl ⟨rfl, rfl, rfl⟩) (.inl ⟨rfl, rfl, rfl⟩) (fun x hx => by cases hx) (fun x hx => by cases hx)
  have k1' : unisonref13_G_Put.l1 (fu + 1) (fu + 1) (.ptr x2 0 12) (.ptr x3 0 16) (.ptr x4 0 12) (.ptr t.next 0 5) (.int .i64 0) t1 = _ := k1
  rw [k1']
  unfold unisonref13_G_Put.p17
  have E2 : Ext t t2 := ⟨by omega, fun l hl => (k8 l hl).trans (E1.get l hl)⟩
  have hm2 := (E2.get x2 (by omega)).trans hm
  have ldl := fun {α : Type} (f : AV → Option α) => m_fld hm2 hcn (j := 3) (v := lv) rfl f
  have hrg2 := hrg.ext E2
  simp only [bnd, guard_tt, guard_ff, guard_tf, guard_ft, pick_t, pick_f, if_t, if_f, add_i, sub_i, lss_i, leq_i, gtr_i, geq_i, eql_i, neq_i, min_i, max_i, conv_i, len_sl, len_nil, not_b, cells_agg, new_s, fld_p, nil_p, ldl]
  rw [lenL hrg2.l]
  obtain ⟨lv', t3, a1, a2, a3, a4, a5⟩ := add_run (x3 := x3) (x4 := x4) (e := ⟨AP.new f, hv', cv'⟩) hm2 k2 hrg2 (by omega) (by omega) (by omega) (fu + 1)
  rw [a1]
  have hF : FrS [x2] t t3 := (E2.frS [x2]).trans a5 fun l hl => .inl hl
  have hF2 := a5
  have hlvo : ∀ y b c g z, lv' = .sl y b c g z → x4 < y := fun y b c g z q => by have := a4 _ _ _ _ _ q; have := E2.next; omega
  have hgood : GoodR a.chunk (AP.new f) (List.replicate n false) (List.replicate n []) := GoodR.new hn hn1
  have hrg3 : RG t3 lv' { a with L := a.L ++ [AP.new f] } (L ++ [⟨AP.new f, hv', cv'⟩]) := by
    refine ⟨a3, by rw [List.map_append, hrg.eq]; rfl, fun e he => ?_, hcn⟩
    rcases List.mem_append.1 he with q | q
    · obtain ⟨hs, cs, q0⟩ := hrg.each e q
      refine ⟨hs, cs, q0.h.frS hF fun y b c g z q2 => ?_, q0.c.frS hF fun y b c g z q2 => ?_, q0.good⟩
      · have := (hoe e q).1 _ _ _ _ _ q2; simp; omega
      · have := (hoe e q).2 _ _ _ _ _ q2; simp; omega
    · rw [List.mem_singleton.1 q]
      exact ⟨_, _, k3.frS hF2 fun y b c g z q2 => by have := k5 _ _ _ _ _ q2; simp; omega, k4.frS hF2 fun y b c g z q2 => by have := k6 _ _ _ _ _ q2; simp; omega, hgood⟩
  have hpw : PW Q s0 t3 x2 x3 x4 f lv' { a with L := a.L ++ [AP.new f] } (L ++ [⟨AP.new f, hv', cv'⟩]) := by
    refine ⟨⟨Nat.le_trans hx.next hF.next, fun l hl => ?_⟩, a2, ?_, ?_, hrg3, ⟨hlo.1, hlo.2.1, hlo.2.2.1, Nat.lt_of_lt_of_le hlo.2.2.2 hF.next⟩, fun y b c g z q => .inr (hlvo _ _ _ _ _ q), fun e he => ?_, ?_, hnq⟩
    · rw [hF.get l (by have := hx.next; omega) (by simp; omega)]
      exact hx.get l hl
    · exact (hF.get x3 (by omega) (by simp; omega)).trans hfr
    · exact (hF.get x4 (by omega) (by simp; omega)).trans hz
    · rcases List.mem_append.1 he with q | q
      · exact hoe e q
      · rw [List.mem_singleton.1 q]
        exact ⟨fun y b c g z q2 => .inr (by have := k5 _ _ _ _ _ q2; omega), fun y b c g z q2 => .inr (by have := k6 _ _ _ _ _ q2; omega)⟩
    · have hs0n := hx.next
      refine ⟨fun y b c g z q => hnq y (by have := hlvo _ _ _ _ _ q; omega), fun e he => ?_⟩
      rcases List.mem_append.1 he with q | q
      · exact hoq.e e q
      · rw [List.mem_singleton.1 q]
        exact ⟨fun y b c g z q2 => hnq y (by have := k5 _ _ _ _ _ q2; omega), fun y b c g z q2 => hnq y (by have := k6 _ _ _ _ _ q2; omega)⟩
  obtain ⟨k, hk, hk1, hk2, hk3⟩ := hfit.pos hc
  obtain ⟨j, hj⟩ : ∃ j : Nat, f.at_ = (j : Int) := ⟨f.at_.toNat, by have := hw.at0; omega⟩
  have hjn : j < n := by omega
  have hbl : (AP.new f).b.length = f.size.toNat := by show (List.replicate f.size.toNat (0 : Int)).length = _; rw [List.length_replicate]
  have hgi : (L ++ [(⟨AP.new f, hv', cv'⟩ : PE)])[L.length]'(by simp) = ⟨AP.new f, hv', cv'⟩ := by simp
  have hjk := countQ_at (sz := (AP.new f).b.length) hk1 (i := j) (by omega)
  have hdl : d.length = min k ((AP.new f).b.length - j * k) := by
    rw [lengthN, if_pos ⟨by omega, by omega⟩, hj, hk, ← Int.natCast_mul] at r5
    rw [hbl] at hjk ⊢
    omega
  have := rlay_run hpw (i := L.length) (by simp) (by simp; omega) hk ⟨hk1, hk2⟩ (by rw [hgi]; exact hfit) hj (by rw [hgi]; show j < (AP.new f).n; omega) (by rw [hgi]; exact hjk) (hd0.ext hpw.ext) (by rw [hgi]; exact hdl) fu hfu
  rw [hrg.len] at this
  rw [hrg2.len]
  exact this

/-- Room is made in front. -/
theorem rcut_loop {Q : Nat → Prop} {s0 : Store} {x2 x3 x4 : Nat} {f : Frm} (hw : f.Wf) (hsz : f.size ≤ 1048576) (fu : Nat) : ∀ (m : Nat) (t : Store) (lv : AV) (a : AG) (L : List PE), L.length < m → L.length < fu → L.length ≤ 800000 → f.size ≤ a.room ∧ a.room < 9223372036854775808 → (∀ q ∈ a.L, q.b.length ≤ 1048576) → PW Q s0 t x2 x3 x4 f lv a L →
    ∃ t' lv' L', unisonref13_G_Put.l2 (fu + 1) m (.ptr x2 0 12) (.ptr x3 0 16) (.ptr x4 0 12) t = unisonref13_G_Put.p22 (fu + 1) (.ptr x2 0 12) (.ptr x3 0 16) (.ptr x4 0 12) t' ∧ PW Q s0 t' x2 x3 x4 f lv' { a with L := (cutA (a.room - f.size) a.L a.counts).1, counts := (cutA (a.room - f.size) a.L a.counts).2 } L' ∧ L'.length ≤ L.length
  | 0, t, lv, a, L, hm, _, _, _, _, _ => by omega
  | m + 1, t, lv, a, L, hm, hfu, hL, hroom, hbq, h => by
    have hs' : unisonref13_G_Put.l2 (fu + 1) (m + 1) = fun x2 x3 x4 s => unisonref13_G_Put.p25 (fu + 1) (unisonref13_G_Put.l2 (fu + 1) m) x2 x3 x4 s := rfl
    rw [hs']
    clear hs'
    simp only
    have hz0 := hw.size0
    obtain ⟨hx, hmm, hfr, hz, hrg, hlo, hol, hoe, hoq, hnq⟩ := id h
    have hcn := hrg.cnt
    unfold unisonref13_G_Put.p25
    have ldr : ∀ {t' : Store}, t'.get x2 = .cells (mcells a lv) false → ∀ {α : Type} (c : AV → Option α), aLoad1 (.ptr x2 (0 + 2) 12) t' c = c (.int .i64 a.room) := fun {t'} ht {α} c => m_fld ht hcn (j := 2) (v := .int .i64 a.room) rfl c
    have mall := fun {α : Type} (c : AV → Option α) => m_all hmm hcn c
    obtain ⟨t1, u1, u2⟩ := rused_run hrg (by omega) hbq fu hfu
    have hm1 := (u2.get x2 (by omega)).trans hmm
    have hf1 := (u2.get x3 (by omega)).trans hfr
    have lds : ∀ {t' : Store}, t'.get x3 = .cells f.cells false → ∀ {α : Type} (c : AV → Option α), aLoad1 (.ptr x3 (0 + 8) 16) t' c = c (.int .u32 f.size) := fun {t'} ht {α} c => g_ld ht rfl rfl c
    have w8 : IntKind.i64.wrap f.size = f.size := w_i64 (by omega) (by omega)
    have hub := used_bnd hbq
    rw [← hrg.len] at hub
    have hub2 : L.length * 1048576 ≤ 800000 * 1048576 := Nat.mul_le_mul_right _ hL
    have w1 : IntKind.i64.wrap (a.room - ((usedA a.L : Nat) : Int)) = a.room - ((usedA a.L : Nat) : Int) := w_i64 (by omega) (by omega)
    simp only [bnd, guard_tt, guard_ff, guard_tf, guard_ft, pick_t, pick_f, if_t, if_f, add_i, sub_i, lss_i, leq_i, gtr_i, geq_i, eql_i, neq_i, min_i, max_i, conv_i, len_sl, len_nil, not_b, cells_agg, new_s, fld_p, nil_p, ldr hmm, mall, u1, ldr hm1, aSame_self, w1, lds hf1, lds hfr, w8]
    unfold unisonref13_G_Put.p24
    have hpw1 : PW Q s0 t1 x2 x3 x4 f lv a L := ⟨hx.trans u2, hm1, hf1, (u2.get x4 (by omega)).trans hz, hrg.ext u2, ⟨hlo.1, hlo.2.1, hlo.2.2.1, Nat.lt_of_lt_of_le hlo.2.2.2 u2.next⟩, hol, hoe, hoq, hnq⟩
    by_cases hu : a.room - ((usedA a.L : Nat) : Int) < f.size
    · rw [decide_eq_true hu, if_t]
      unfold unisonref13_G_Put.p23
      have hne : a.L ≠ [] := fun q => by rw [q] at hu; simp [usedA] at hu; omega
      have hLne : 0 < L.length := by
        rw [hrg.len]
        exact List.length_pos_iff.2 hne
      have mall1 := fun {α : Type} (c : AV → Option α) => m_all hm1 hcn c
      obtain ⟨lv2, t2, v1, v2, v3, v4⟩ := without_run hpw1.rg (by omega) (i := 0) hLne fu
      have v1' : rn (fu + 1) 27 [.agg (mcells a lv), .int .i64 0] t1 = _ := v1
      have hm2 := (v4.get x2 (by have := u2.next; omega)).trans hm1
      have hst := fun {α : Type} (c : Store → Option α) => st12 hm2 (mcells_len hcn) (vs := mcells { a with L := a.L.eraseIdx 0 } lv2) (mcells_len hcn) c
      obtain ⟨t3, ht3⟩ : ∃ x : Store, x = t2.set x2 (.cells (mcells { a with L := a.L.eraseIdx 0 } lv2) false) := ⟨_, rfl⟩
      have hm3 : t3.get x2 = .cells (mcells { a with L := a.L.eraseIdx 0 } lv2) false := by rw [ht3, get_set, if_pos rfl]
      have hF3 : FrS [x2] t2 t3 := by rw [ht3]; exact (Fr1.set _ _ _).frS (by simp)
      have n3 : t3.next = t2.next := by rw [ht3]; rfl
      have hml := mcells_len (a := { a with L := a.L.eraseIdx 0 }) (lv := lv2) hcn
      have hv3 : (mcells { a with L := a.L.eraseIdx 0 } lv2)[0 + 6 + (3 : Int).toNat * 1]? = some (.int .i64 (a.counts.getD 3 0)) := by
        show (mcells { a with L := a.L.eraseIdx 0 } lv2)[6 + 3]? = _
        rw [mcells, List.getElem?_append_right (by simp), List.getElem?_map]
        have : a.counts[6 + 3 - 6]? = some (a.counts.getD 3 0) := by
          rw [show 6 + 3 - 6 = 3 by omega, List.getD_eq_getElem?_getD, List.getElem?_eq_getElem (by rw [hcn]; decide)]; rfl
        show Option.map _ (a.counts[6 + 3 - 6]?) = _
        rw [this]; rfl
      have hset3 : (mcells { a with L := a.L.eraseIdx 0 } lv2).set (0 + 6 + (3 : Int).toNat * 1) (.int .i64 (IntKind.i64.wrap (a.counts.getD 3 0 + 1))) = mcells { a with L := a.L.eraseIdx 0, counts := countC a.counts 3 } lv2 := by
        show (mcells { a with L := a.L.eraseIdx 0 } lv2).set (6 + 3) _ = _
        unfold mcells countC
        rw [List.set_append_right _ _ (by simp)]
        simp [List.map_set]
      have hst3 : ∀ {α : Type} (c : Store → Option α), aStore 1 (.ptr x2 (0 + 6 + (3 : Int).toNat * 1) 12) (.int .i64 (IntKind.i64.wrap (a.counts.getD 3 0 + 1))) t3 c = c (t3.set x2 (.cells (mcells { a with L := a.L.eraseIdx 0, counts := countC a.counts 3 } lv2) false)) := fun c => by
        rw [g_st hm3 hml (by decide) rfl, hset3]
      have ix3 : ∀ {α : Type} (c : AV → Option α), aIndexArr 6 1 (.ptr x2 (0 + 6) 12) (.int .i64 3) c = c (.ptr x2 (0 + 6 + (3 : Int).toNat * 1) 12) := fun c => index_arr (by decide) (by decide)
      simp only [bnd, guard_tt, guard_ff, guard_tf, guard_ft, pick_t, pick_f, if_t, if_f, add_i, sub_i, lss_i, leq_i, gtr_i, geq_i, eql_i, neq_i, min_i, max_i, conv_i, len_sl, len_nil, not_b, cells_agg, new_s, fld_p, nil_p, mall1, v1', hst, ← ht3, ix3, g_ld hm3 hml hv3, hst3]
      obtain ⟨t4, ht4⟩ : ∃ x : Store, x = t3.set x2 (.cells (mcells { a with L := a.L.eraseIdx 0, counts := countC a.counts 3 } lv2) false) := ⟨_, rfl⟩
      have hF4 : FrS [x2] t1 t4 := (v4.frS [x2]).trans (hF3.trans (by rw [ht4]; exact (Fr1.set _ _ _).frS (by simp)) fun l hl => .inl hl) fun l hl => .inl hl
      have hF24 : FrS [x2] t2 t4 := hF3.trans (by rw [ht4]; exact (Fr1.set _ _ _).frS (S := [x2]) (by simp)) fun l hl => .inl hl
      have hm4 : t4.get x2 = .cells (mcells { a with L := a.L.eraseIdx 0, counts := countC a.counts 3 } lv2) false := by rw [ht4, get_set, if_pos rfl]
      rw [← ht4]
      obtain ⟨rr, nn, mm, w5, w6⟩ := v3
      have hlvo : ∀ y b c g z, lv2 = .sl y b c g z → x4 < y := fun y b c g z q => by
        rw [w5] at q
        injection q with q
        have := u2.next
        omega
      have hoe' : ∀ e ∈ L.eraseIdx 0, (∀ y b c g z, e.hv = .sl y b c g z → y < x2 ∨ x4 < y) ∧ ∀ y b c g z, e.cv = .sl y b c g z → y < x2 ∨ x4 < y := fun e he => hoe e (List.mem_of_mem_eraseIdx he)
      have hrg4 : RG t4 lv2 { a with L := a.L.eraseIdx 0, counts := countC a.counts 3 } (L.eraseIdx 0) := (v2.frS hF24 (fun y b c g z q => by have := hlvo _ _ _ _ _ q; simp; omega) (fun e he => ⟨fun y b c g z q => by have := (hoe' e he).1 _ _ _ _ _ q; simp; omega, fun y b c g z q => by have := (hoe' e he).2 _ _ _ _ _ q; simp; omega⟩)).same rfl rfl (by show (countC a.counts 3).length = 6; rw [countC_len]; exact hcn)
      have hpw4 : PW Q s0 t4 x2 x3 x4 f lv2 { a with L := a.L.eraseIdx 0, counts := countC a.counts 3 } (L.eraseIdx 0) := by
        refine ⟨⟨Nat.le_trans hpw1.ext.next hF4.next, fun l hl => ?_⟩, hm4, ?_, ?_, hrg4, ⟨hlo.1, hlo.2.1, hlo.2.2.1, Nat.lt_of_lt_of_le hpw1.lo.2.2.2 hF4.next⟩, fun y b c g z q => .inr (hlvo _ _ _ _ _ q), hoe', ⟨fun y b c g z q => hnq y (by have := hlvo _ _ _ _ _ q; omega), fun e he => hoq.e e (List.mem_of_mem_eraseIdx he)⟩, hnq⟩
        · rw [hF4.get l (by have := hpw1.ext.next; omega) (by simp; omega)]
          exact hpw1.ext.get l hl
        · exact (hF4.get x3 (by have := hpw1.lo; omega) (by simp; omega)).trans hpw1.fr
        · exact (hF4.get x4 (by have := hpw1.lo; omega) (by simp; omega)).trans hpw1.z
      have hel : (L.eraseIdx 0).length = L.length - 1 := by rw [List.length_eraseIdx, if_pos hLne]
      obtain ⟨t5, lv5, L5, k1, k2, k3⟩ := rcut_loop hw hsz fu m t4 lv2 { a with L := a.L.eraseIdx 0, counts := countC a.counts 3 } (L.eraseIdx 0) (by omega) (by omega) (by omega) hroom (fun q hq => hbq q (List.mem_of_mem_eraseIdx hq)) hpw4
      refine ⟨t5, lv5, L5, k1, ?_, by omega⟩
      have hcut : cutA (a.room - f.size) a.L a.counts = cutA (a.room - f.size) (a.L.eraseIdx 0) (countC a.counts 3) := by
        cases hal : a.L with
        | nil => exact absurd hal hne
        | cons q l =>
          rw [hal] at hu
          show (if ((usedA (q :: l) : Nat) : Int) > a.room - f.size then cutA (a.room - f.size) l (countC a.counts 3) else (q :: l, a.counts)) = _
          rw [if_pos (by omega)]
          rfl
      rw [hcut]
      exact k2
    · rw [decide_eq_false hu, if_f]
      have hcut : cutA (a.room - f.size) a.L a.counts = (a.L, a.counts) := by
        cases hal : a.L with
        | nil => rfl
        | cons q l =>
          rw [hal] at hu
          show (if ((usedA (q :: l) : Nat) : Int) > a.room - f.size then cutA (a.room - f.size) l (countC a.counts 3) else (q :: l, a.counts)) = _
          rw [if_neg (by omega)]
      rw [hcut]
      exact ⟨t1, lv, L, rfl, hpw1, Nat.le_refl _⟩
end Go.Proofs.YtmkdpenpfkmfpaaDoor.Sim
