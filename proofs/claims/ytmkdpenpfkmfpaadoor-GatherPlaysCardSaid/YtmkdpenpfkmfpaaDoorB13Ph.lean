/- Layer 13: the document's Put: a chunk is laid, whole. No condition. -/
import Derived.Test.YtmkdpenpfkmfpaaDoorB13Pg
namespace Go.Proofs.YtmkdpenpfkmfpaaDoor.Sim
set_option linter.unusedSimpArgs false
set_option linter.unusedVariables false
variable {s s' : Store}

def zero5 : List AV := [AV.int .u8 0, AV.int .u64 0, AV.int .i64 0, AV.nilsl, AV.nilsl]
theorem zero5_eq : [AV.int .u8 0, AV.int .u64 0, AV.int .i64 0, AV.nilsl, AV.nilsl] = zero5 := rfl
theorem zero5_len : zero5.length = 5 := rfl
theorem p5_all {x : Nat} {e : PE} {ro : Bool} (h : s.get x = .cells (pcl e) ro) {α : Type} (f : AV → Option α) : aLoadN 5 (.ptr x 0 5) s f = f (.agg (pcl e)) := by
  rw [load_n h (pcl_len e) (by omega)]
  rfl
/-- What a put of the document comes to. -/
def ResR (Q : Nat → Prop) (s0 : Store) (r : Option (AV × Store)) (o : AG × List Int × Nat) : Prop := ∃ lv' L' s', r = some (.tuple [.agg (mcells o.1 lv'), .str (strOf o.2.1), .int .u8 ((o.2.2 : Nat) : Int)], s') ∧ RG s' lv' o.1 L' ∧ Ext s0 s' ∧ Off Q lv' L'
theorem rlay_run {Q : Nat → Prop} {s0 t : Store} {x2 x3 x4 : Nat} {f : Frm} {lv : AV} {a : AG} {L : List PE} (h : PW Q s0 t x2 x3 x4 f lv a L) {i : Nat} (hi : i < L.length) (hL : L.length ≤ 900000) {k : Nat} (hk : a.chunk = (k : Int)) (hk1 : 1 ≤ k ∧ k ≤ 65536) (hf : FitQ a.chunk L[i].q) {j : Nat} (hj : f.at_ = (j : Int)) (hjn : j < L[i].q.n) (hjk : j * k ≤ L[i].q.b.length) {d : List Int} (hd : IsV t f.dv .u8 d) (hdl : d.length = min k (L[i].q.b.length - j * k)) (fu : Nat) (hfu : 1048577 < fu) :
    ResR Q s0 (unisonref13_G_Put.p15 (fu + 1) (.ptr x2 0 12) (.ptr x3 0 16) (.ptr x4 0 12) (.int .i64 (i : Int)) t) (layA a i f d) := by
  obtain ⟨hx, hm, hfr, hz, hrg, hlo, hol, hoe, hoq, hnq⟩ := h
  have hcn := hrg.cnt
  obtain ⟨hs, cs, he⟩ := hrg.each _ (List.getElem_mem hi)
  have hget := hrg.get hi
  have hnn := hf.top (by omega)
  have hhl := he.good.hl
  have hcl := he.good.cl
  -- p15: the part is copied
  unfold unisonref13_G_Put.p15
  obtain ⟨id, ep, a1, a2, a3, a4⟩ := pl_at hrg.l hi
  have ldl := fun {α : Type} (f : AV → Option α) => m_fld hm hcn (j := 3) (v := lv) rfl f
  simp only [bnd, guard_tt, guard_ff, guard_tf, guard_ft, pick_t, pick_f, if_t, if_f, add_i, sub_i, lss_i, leq_i, gtr_i, geq_i, eql_i, neq_i, min_i, max_i, conv_i, len_sl, len_nil, not_b, cells_agg, new_s, fld_p, nil_p, ldl, a1, a4]
  rw [zero5_eq, zero5_len]
  have e1 := Ext.push t (.cells zero5 false)
  have g1 : (t.push (.cells zero5 false)).get t.next = .cells zero5 false := by rw [get_push, if_pos rfl]
  have n1 : (t.push (.cells zero5 false)).next = t.next + 1 := rfl
  have hst1 := fun {α : Type} (f : Store → Option α) => st_all (s := t.push (.cells zero5 false)) g1 zero5_len (vs := pcl L[i]) rfl f
  simp only [hst1]
  obtain ⟨t1, ht1⟩ : ∃ x : Store, x = (t.push (.cells zero5 false)).set t.next (.cells (pcl L[i]) false) := ⟨_, rfl⟩
  have x1 : t1.get t.next = .cells (pcl L[i]) false := by rw [ht1, get_set, if_pos rfl]
  have m1 : t1.next = t.next + 1 := by rw [ht1]; exact n1
  have E1 : Ext t t1 := ⟨by omega, fun l hl => by rw [ht1, get_set, if_neg (by omega)]; exact e1.get l hl⟩
  rw [← ht1]
  clear ht1 hst1 g1 n1 e1
  -- p14: which are there
  unfold unisonref13_G_Put.p14
  rw [build_0]
  have ld1 : ∀ {α : Type} (c : AV → Option α), aLoad1 (.ptr t.next (0 + 3) 5) (t1.push (.cells [] false)) c = c L[i].hv := fun c => g_ld (((Ext.push t1 _).get _ (by omega)).trans x1) rfl rfl c
  obtain ⟨t2, b1, b2, b3, b4⟩ := copyL (c := bc) (es := 1) (bytes := 1) (fun _ => rfl) (by decide) (he.h.ext E1) (by omega) (by decide)
  have x2' := (b4.get t.next (by omega)).trans x1
  have hst2 := fun {α : Type} (f : Store → Option α) => g_st (ep := 5) (j := 0 + 3) (v := .sl t1.next 0 hs.length 1 (hs.length * 1)) x2' rfl (by decide) rfl f
  have hset2 : (pcl L[i]).set (0 + 3) (.sl t1.next 0 hs.length 1 (hs.length * 1)) = pcl ⟨L[i].q, .sl t1.next 0 hs.length 1 (hs.length * 1), L[i].cv⟩ := rfl
  simp only [bnd, guard_tt, guard_ff, guard_tf, guard_ft, pick_t, pick_f, if_t, if_f, add_i, sub_i, lss_i, leq_i, gtr_i, geq_i, eql_i, neq_i, min_i, max_i, conv_i, len_sl, len_nil, not_b, cells_agg, new_s, fld_p, nil_p, ld1, b1, hst2, hset2]
  obtain ⟨t3, ht3⟩ : ∃ x : Store, x = t2.set t.next (.cells (pcl ⟨L[i].q, .sl t1.next 0 hs.length 1 (hs.length * 1), L[i].cv⟩) false) := ⟨_, rfl⟩
  have x3' : t3.get t.next = .cells (pcl ⟨L[i].q, .sl t1.next 0 hs.length 1 (hs.length * 1), L[i].cv⟩) false := by rw [ht3, get_set, if_pos rfl]
  have h3 : t3.get t1.next = .cells (hs.map .bool) false := by rw [ht3, get_set, if_neg (by omega), b2, flat_bc]
  have m3 : t3.next = t1.next + 1 := by rw [ht3]; exact b3
  have E3 : Ext t t3 := ⟨by omega, fun l hl => by rw [ht3, get_set, if_neg (by omega), b4.get l (by omega)]; exact E1.get l hl⟩
  rw [← ht3]
  clear ht3 hst2 ld1
  -- p13: the chunks
  unfold unisonref13_G_Put.p13
  rw [build_0]
  have ld3 : ∀ {α : Type} (c : AV → Option α), aLoad1 (.ptr t.next (0 + 4) 5) (t3.push (.cells [] false)) c = c L[i].cv := fun c => g_ld (((Ext.push t3 _).get _ (by omega)).trans x3') rfl rfl c
  obtain ⟨t4, c1, c2, c3, c4⟩ := copyL (c := sc) (es := 1) (bytes := 16) (fun _ => rfl) (by decide) (he.c.ext E3) (by omega) (by decide)
  have x4' := (c4.get t.next (by omega)).trans x3'
  have hst4 := fun {α : Type} (f : Store → Option α) => g_st (ep := 5) (j := 0 + 4) (v := .sl t3.next 0 cs.length 1 (cs.length * 1)) x4' rfl (by decide) rfl f
  have hset4 : (pcl ⟨L[i].q, .sl t1.next 0 hs.length 1 (hs.length * 1), L[i].cv⟩).set (0 + 4) (.sl t3.next 0 cs.length 1 (cs.length * 1)) = pcl ⟨L[i].q, .sl t1.next 0 hs.length 1 (hs.length * 1), .sl t3.next 0 cs.length 1 (cs.length * 1)⟩ := rfl
  simp only [bnd, guard_tt, guard_ff, guard_tf, guard_ft, pick_t, pick_f, if_t, if_f, add_i, sub_i, lss_i, leq_i, gtr_i, geq_i, eql_i, neq_i, min_i, max_i, conv_i, len_sl, len_nil, not_b, cells_agg, new_s, fld_p, nil_p, ld3, c1, hst4, hset4]
  obtain ⟨t5, ht5⟩ : ∃ x : Store, x = t4.set t.next (.cells (pcl ⟨L[i].q, .sl t1.next 0 hs.length 1 (hs.length * 1), .sl t3.next 0 cs.length 1 (cs.length * 1)⟩) false) := ⟨_, rfl⟩
  have x5' : t5.get t.next = .cells (pcl ⟨L[i].q, .sl t1.next 0 hs.length 1 (hs.length * 1), .sl t3.next 0 cs.length 1 (cs.length * 1)⟩) false := by rw [ht5, get_set, if_pos rfl]
  have h5 : t5.get t1.next = .cells (hs.map .bool) false := by rw [ht5, get_set, if_neg (by omega), c4.get _ (by omega)]; exact h3
  have k5 : t5.get t3.next = .cells (cs.map fun c => .str (strOf c)) false := by rw [ht5, get_set, if_neg (by omega), c2, flat_sc]
  have m5 : t5.next = t3.next + 1 := by rw [ht5]; exact c3
  have E5 : Ext t t5 := ⟨by omega, fun l hl => by rw [ht5, get_set, if_neg (by omega), c4.get l (by omega)]; exact E3.get l hl⟩
  rw [← ht5]
  clear ht5 hst4 ld3
  -- p12, p11: this chunk
  unfold unisonref13_G_Put.p12
  have ld5 : ∀ {α : Type} (c : AV → Option α), aLoad1 (.ptr t.next (0 + 3) 5) t5 c = c (.sl t1.next 0 hs.length 1 (hs.length * 1)) := fun c => g_ld x5' rfl rfl c
  have lf5 : ∀ {α : Type} (c : AV → Option α), aLoad1 (.ptr x3 (0 + 6) 16) t5 c = c (.int .u32 (j : Int)) := fun c => by rw [← hj]; exact g_ld ((E5.get _ (by omega)).trans hfr) rfl rfl c
  have ix5 : ∀ {α : Type} (c : AV → Option α), aIndexSl 1 (.sl t1.next 0 hs.length 1 (hs.length * 1)) (.int .u32 (j : Int)) c = c (.ptr t1.next (0 + j) hs.length) := fun c => by
    rw [index_sl (by omega) (by omega), Int.toNat_natCast, Nat.mul_one, Nat.mul_one]
  have hst5 : ∀ {α : Type} (c : Store → Option α), aStore 1 (.ptr t1.next (0 + j) hs.length) (.bool true) t5 c = c (t5.set t1.next (.cells ((hs.set j true).map .bool) false)) := fun c => by
    rw [g_st h5 (List.length_map ..) (by omega) rfl, Nat.zero_add, List.map_set]
  simp only [bnd, guard_tt, guard_ff, guard_tf, guard_ft, pick_t, pick_f, if_t, if_f, add_i, sub_i, lss_i, leq_i, gtr_i, geq_i, eql_i, neq_i, min_i, max_i, conv_i, len_sl, len_nil, not_b, cells_agg, new_s, fld_p, nil_p, ld5, lf5, ix5, hst5]
  obtain ⟨t6, ht6⟩ : ∃ x : Store, x = t5.set t1.next (.cells ((hs.set j true).map .bool) false) := ⟨_, rfl⟩
  have x6 : t6.get t.next = .cells (pcl ⟨L[i].q, .sl t1.next 0 hs.length 1 (hs.length * 1), .sl t3.next 0 cs.length 1 (cs.length * 1)⟩) false := by rw [ht6, get_set, if_neg (by omega)]; exact x5'
  have h6 : t6.get t1.next = .cells ((hs.set j true).map .bool) false := by rw [ht6, get_set, if_pos rfl]
  have k6 : t6.get t3.next = .cells (cs.map fun c => .str (strOf c)) false := by rw [ht6, get_set, if_neg (by omega)]; exact k5
  have m6 : t6.next = t5.next := by rw [ht6]; rfl
  have E6 : Ext t t6 := ⟨by omega, fun l hl => by rw [ht6, get_set, if_neg (by omega)]; exact E5.get l hl⟩
  rw [← ht6]
  clear ht6 hst5 ld5 lf5 ix5
  unfold unisonref13_G_Put.p11
  have ld6 : ∀ {α : Type} (c : AV → Option α), aLoad1 (.ptr t.next (0 + 4) 5) t6 c = c (.sl t3.next 0 cs.length 1 (cs.length * 1)) := fun c => g_ld x6 rfl rfl c
  have hfr6 := (E6.get x3 (by omega)).trans hfr
  have lf6 : ∀ {α : Type} (c : AV → Option α), aLoad1 (.ptr x3 (0 + 6) 16) t6 c = c (.int .u32 (j : Int)) := fun c => by rw [← hj]; exact g_ld hfr6 rfl rfl c
  have lf7 : ∀ {α : Type} (c : AV → Option α), aLoad1 (.ptr x3 (0 + 15) 16) t6 c = c f.dv := fun c => g_ld hfr6 rfl rfl c
  have ix6 : ∀ {α : Type} (c : AV → Option α), aIndexSl 1 (.sl t3.next 0 cs.length 1 (cs.length * 1)) (.int .u32 (j : Int)) c = c (.ptr t3.next (0 + j) cs.length) := fun c => by
    rw [index_sl (by omega) (by omega), Int.toNat_natCast, Nat.mul_one, Nat.mul_one]
  have hst6 : ∀ {α : Type} (c : Store → Option α), aStore 1 (.ptr t3.next (0 + j) cs.length) (.str (strOf d)) t6 c = c (t6.set t3.next (.cells ((cs.set j d).map fun c => .str (strOf c)) false)) := fun c => by
    rw [g_st k6 (List.length_map ..) (by omega) rfl, Nat.zero_add, List.map_set]
  have hsv := fun {α : Type} (c : AV → Option α) => strV (hd.ext E6) c
  simp only [bnd, guard_tt, guard_ff, guard_tf, guard_ft, pick_t, pick_f, if_t, if_f, add_i, sub_i, lss_i, leq_i, gtr_i, geq_i, eql_i, neq_i, min_i, max_i, conv_i, len_sl, len_nil, not_b, cells_agg, new_s, fld_p, nil_p, ld6, lf6, lf7, hsv, ix6, hst6]
  obtain ⟨t7, ht7⟩ : ∃ x : Store, x = t6.set t3.next (.cells ((cs.set j d).map fun c => .str (strOf c)) false) := ⟨_, rfl⟩
  have hfill := he.good.fill hk hf.len hjn hjk hdl
  obtain ⟨e', he'⟩ : ∃ e' : PE, e' = ⟨L[i].q.fill (j : Int) (j * k) d, .sl t1.next 0 hs.length 1 (hs.length * 1), .sl t3.next 0 cs.length 1 (cs.length * 1)⟩ := ⟨_, rfl⟩
  have hsplen : (splice L[i].q.b d (j * k)).length = L[i].q.b.length := splice_len (by omega)
  have x7 : t7.get t.next = .cells (pcl e') false := by
    rw [ht7, get_set, if_neg (by omega), x6, he']
    show AObj.cells (pcl _) false = .cells [.int .u8 L[i].q.id.1, .int .u64 L[i].q.id.2, .int .i64 ((splice L[i].q.b d (j * k)).length : Int), _, _] false
    rw [hsplen]
    rfl
  have h7 : IsL bc 1 t7 e'.hv (hs.set j true) := .inr ⟨t1.next, false, by rw [he', List.length_set], by rw [ht7]; show t1.next < t6.next; omega, by rw [ht7, get_set, if_neg (by omega), h6, flat_bc]⟩
  have k7 : IsL sc 1 t7 e'.cv (cs.set j d) := .inr ⟨t3.next, false, by rw [he', List.length_set], by rw [ht7]; show t3.next < t6.next; omega, by rw [ht7, get_set, if_pos rfl, flat_sc]⟩
  have m7 : t7.next = t6.next := by rw [ht7]; rfl
  have E7 : Ext t t7 := ⟨by omega, fun l hl => by rw [ht7, get_set, if_neg (by omega)]; exact E6.get l hl⟩
  have hq' : e'.q = L[i].q.fill (j : Int) (j * k) d := by rw [he']
  have hfq : FitQ a.chunk e'.q := by rw [hq']; exact hf.fill (by omega)
  have hgood : GoodR a.chunk e'.q (hs.set j true) (cs.set j d) := by rw [hq']; exact hfill
  have hrow1 : ∀ y b c g z, e'.hv = .sl y b c g z → x4 < y := fun y b c g z q => by rw [he'] at q; injection q with q; omega
  have hrow2 : ∀ y b c g z, e'.cv = .sl y b c g z → x4 < y := fun y b c g z q => by rw [he'] at q; injection q with q; omega
  rw [← ht7]
  clear ht7 hst6 ld6 lf6 lf7 ix6 hsv he'
  -- p10: is it full?
  unfold unisonref13_G_Put.p10
  have hall := fun {α : Type} (c : AV → Option α) => p5_all x7 c
  have hlen' : (hs.set j true).length ≤ 1048576 := by rw [List.length_set]; omega
  obtain ⟨t8, r1, r2⟩ := full_run h7 hlen' fu (by omega)
  simp only [hall, r1, bnd]
  rw [hgood.all hfq]
  unfold unisonref13_G_Put.p9
  have E8 := E7.trans r2
  have x8 := (r2.get t.next (by omega)).trans x7
  have k8 := k7.ext r2
  have h8 := h7.ext r2
  have hm8 := (E8.get x2 (by omega)).trans hm
  have hz8 := (E8.get x4 (by omega)).trans hz
  have hrg8 := hrg.ext E8
  have m8 := E8.next
  have m8' : t.next < t8.next := by have := r2.next; omega
  have hoff : (f.at_ * a.chunk).toNat = j * k := by rw [hj, hk, ← Int.natCast_mul]; rfl
  have hlay : layA a i f d = if cntW e'.q.W = e'.q.n then ({ a with L := a.L.eraseIdx i, counts := countC a.counts 5 }, e'.q.b, 5) else ({ a with L := a.L.set i e'.q, counts := countC a.counts 4 }, [], 4) := by
    unfold layA
    rw [hget]
    simp only
    rw [hoff, hj, ← hq']
  have mall8 := fun {α : Type} (f : AV → Option α) => m_all hm8 hcn f
  by_cases hfull : cntW e'.q.W = e'.q.n
  · rw [hlay, if_pos hfull, decide_eq_true hfull, if_t]
    unfold unisonref13_G_Put.p7 unisonref13_G_Put.p6
    have hflat := hgood.whole hfq (by omega) (by rw [hgood.all hfq]; exact decide_eq_true hfull)
    have ld8 : ∀ {α : Type} (c : AV → Option α), aLoad1 (.ptr t.next (0 + 4) 5) t8 c = c e'.cv := fun c => g_ld x8 rfl rfl c
    have hcat := cat_loop (x2 := x2) (x4 := x4) (x7 := .int .i64 (i : Int)) x8 k8 (by rw [List.length_set]; omega) (by rw [hflat]; exact hfq.size) (fu + 1) (fu + 1) 0 (Nat.zero_le _) (by rw [List.length_set]; omega)
    have hcat' : unisonref13_G_Put.l0 (fu + 1) (fu + 1) (.ptr x2 0 12) (.ptr x4 0 12) (.int .i64 (i : Int)) (.ptr t.next 0 5) (.str ⟨#[]⟩) (.int .i64 ((cs.set j d).length : Nat)) (.int .i64 0) t8 = _ := hcat
    simp only [bnd, guard_tt, guard_ff, guard_tf, guard_ft, pick_t, pick_f, if_t, if_f, add_i, sub_i, lss_i, leq_i, gtr_i, geq_i, eql_i, neq_i, min_i, max_i, conv_i, len_sl, len_nil, not_b, cells_agg, new_s, fld_p, nil_p, ld8]
    rw [lenL k8, hcat', hflat]
    unfold unisonref13_G_Put.p1
    obtain ⟨lv', t9, w1, w2, w3, w4⟩ := without_run hrg8 (by omega) hi fu
    have hm9 := (w4.get x2 (by omega)).trans hm8
    have hz9 := (w4.get x4 (by omega)).trans hz8
    have hst9 := fun {α : Type} (c : Store → Option α) => st12 hm9 (mcells_len hcn) (vs := mcells { a with L := a.L.eraseIdx i } lv') (mcells_len hcn) c
    obtain ⟨rr, nn, mm, w5, w6⟩ := w3
    have E9 := E8.trans w4
    have m9 := w4.next
    have hfr2 : FrS [x2] t9 (t9.set x2 (.cells (mcells { a with L := a.L.eraseIdx i } lv') false)) := (Fr1.set _ _ _).frS (by simp)
    have hlvo : ∀ y b c g z, lv' = .sl y b c g z → x4 < y := fun y b c g z q => by rw [w5] at q; injection q with q; omega
    have hoe' : ∀ e ∈ L.eraseIdx i, (∀ y b c g z, e.hv = .sl y b c g z → y < x2 ∨ x4 < y) ∧ ∀ y b c g z, e.cv = .sl y b c g z → y < x2 ∨ x4 < y := fun e he => hoe e (List.mem_of_mem_eraseIdx he)
    have hrg10 := w2.frS hfr2 (fun y b c g z q => by have := hlvo _ _ _ _ _ q; simp; omega) (fun e he => ⟨fun y b c g z q => by have := (hoe' e he).1 _ _ _ _ _ q; simp; omega, fun y b c g z q => by have := (hoe' e he).2 _ _ _ _ _ q; simp; omega⟩)
    have E10 : Ext s0 (t9.set x2 (.cells (mcells { a with L := a.L.eraseIdx i } lv') false)) := ⟨by have := hx.next; show s0.next ≤ t9.next; omega, fun l hl => by rw [get_set, if_neg (by omega)]; exact ((hx.trans E9).get l hl)⟩
    obtain ⟨s', T1, T2, T3⟩ := tail_run (x2 := x2) (x4 := x4) (w := 5) (wi := 5) E10 (by rw [get_set, if_pos rfl]) (by rw [get_set, if_neg (by omega)]; exact hz9) hrg10 ⟨by omega, by omega, by show x4 < t9.next; omega⟩ (fun y b c g z q => by have := hlvo _ _ _ _ _ q; simp; omega) (fun e he => ⟨fun y b c g z q => by have := (hoe' e he).1 _ _ _ _ _ q; simp; omega, fun y b c g z q => by have := (hoe' e he).2 _ _ _ _ _ q; simp; omega⟩) (by decide) rfl (.str (strOf e'.q.b))
    simp only [bnd, guard_tt, guard_ff, guard_tf, guard_ft, pick_t, pick_f, if_t, if_f, add_i, sub_i, lss_i, leq_i, gtr_i, geq_i, eql_i, neq_i, min_i, max_i, conv_i, len_sl, len_nil, not_b, cells_agg, new_s, fld_p, nil_p] at T1
    simp only [bnd, guard_tt, guard_ff, guard_tf, guard_ft, pick_t, pick_f, if_t, if_f, add_i, sub_i, lss_i, leq_i, gtr_i, geq_i, eql_i, neq_i, min_i, max_i, conv_i, len_sl, len_nil, not_b, cells_agg, new_s, fld_p, nil_p, mall8, w1, hst9]
    have hs0n := hx.next
    exact ⟨lv', L.eraseIdx i, s', T1, T2, T3, fun y b c g z q => hnq y (by have := hlvo _ _ _ _ _ q; omega), fun e he => hoq.e e (List.mem_of_mem_eraseIdx he)⟩
  · rw [hlay, if_neg hfull, decide_eq_false hfull, if_f]
    unfold unisonref13_G_Put.p8 unisonref13_G_Put.p0
    rw [build_0]
    have ldl8 : ∀ {α : Type} (c : AV → Option α), aLoad1 (.ptr x2 (0 + 3) 12) (t8.push (.cells [] false)) c = c lv := fun c => m_fld (((Ext.push t8 _).get x2 (by omega)).trans hm8) hcn (j := 3) (v := lv) rfl c
    obtain ⟨t9, b1', b2', b3', b4'⟩ := copyL (bytes := 72) pcl_len (by decide) hrg8.l (by omega) (by decide)
    have x9 := (b4'.get t.next (by omega)).trans x8
    have hall9 := fun {α : Type} (c : AV → Option α) => p5_all x9 c
    have ix9 : ∀ {α : Type} (c : AV → Option α), aIndexSl 5 (.sl t8.next 0 L.length 5 (L.length * 5)) (.int .i64 (i : Int)) c = c (.ptr t8.next (0 + i * 5) (L.length * 5)) := fun c => idxL hi c
    have hst9 : ∀ {α : Type} (c : Store → Option α), aStore 5 (.ptr t8.next (0 + i * 5) (L.length * 5)) (.agg (pcl e')) t9 c = c (t9.set t8.next (.cells ((L.set i e').map pcl).flatten false)) := fun c => by
      have hfl := flatL_len pcl_len L
      simp only [aStore, aCells, aOwn, b2', hfl, if_true, pcl_len]
      rw [if_pos ⟨trivial, by omega⟩, Nat.zero_add, flat_set pcl_len L i e' hi]
    have m9 : t9.next = t8.next + 1 := b3'
    have hm9 : (t9.set t8.next (.cells ((L.set i e').map pcl).flatten false)).get x2 = .cells (mcells a lv) false := by rw [get_set, if_neg (by omega), b4'.get x2 (by omega)]; exact hm8
    have hst10 := fun {α : Type} (c : Store → Option α) => g_st (ep := 12) (j := 0 + 3) (v := .sl t8.next 0 L.length 5 (L.length * 5)) hm9 (mcells_len hcn) (by decide) rfl c
    have hset10 : (mcells a lv).set (0 + 3) (.sl t8.next 0 L.length 5 (L.length * 5)) = mcells { a with L := a.L.set i e'.q } (.sl t8.next 0 L.length 5 (L.length * 5)) := rfl
    have E10 : Ext t ((t9.set t8.next (.cells ((L.set i e').map pcl).flatten false))) := ⟨by show t.next ≤ t9.next; omega, fun l hl => by rw [get_set, if_neg (by omega), b4'.get l (by omega)]; exact E8.get l hl⟩
    have hrg10 : RG (t9.set t8.next (.cells ((L.set i e').map pcl).flatten false)) (.sl t8.next 0 L.length 5 (L.length * 5)) { a with L := a.L.set i e'.q } (L.set i e') := by
      have E89 : Ext t8 (t9.set t8.next (.cells ((L.set i e').map pcl).flatten false)) := ⟨by show t8.next ≤ t9.next; omega, fun l hl => by rw [get_set, if_neg (by omega)]; exact b4'.get l hl⟩
      refine ⟨.inr ⟨t8.next, false, by rw [List.length_set], by show t8.next < t9.next; omega, by rw [get_set, if_pos rfl]⟩, ?_, fun e he => ?_, hcn⟩
      · rw [← hrg.eq, List.map_set]
      · rcases List.mem_or_eq_of_mem_set he with q | q
        · obtain ⟨hs0, cs0, q0⟩ := hrg.each e q
          exact ⟨hs0, cs0, q0.ext E10⟩
        · rw [q]
          exact ⟨_, _, h8.ext E89, k8.ext E89, hgood⟩
    have hlv9 : ∀ y b c g z, (AV.sl t8.next 0 L.length 5 (L.length * 5)) = .sl y b c g z → x4 < y := fun y b c g z q => by injection q with q; omega
    have hoe' : ∀ e ∈ L.set i e', (∀ y b c g z, e.hv = .sl y b c g z → y < x2 ∨ x4 < y) ∧ ∀ y b c g z, e.cv = .sl y b c g z → y < x2 ∨ x4 < y := fun e he => by
      rcases List.mem_or_eq_of_mem_set he with q | q
      · exact hoe e q
      · rw [q]
        exact ⟨fun y b c g z q2 => .inr (hrow1 _ _ _ _ _ q2), fun y b c g z q2 => .inr (hrow2 _ _ _ _ _ q2)⟩
    generalize hlvn : AV.sl t8.next 0 L.length 5 (L.length * 5) = lv' at *
    have hfr2 : FrS [x2] (t9.set t8.next (.cells ((L.set i e').map pcl).flatten false)) ((t9.set t8.next (.cells ((L.set i e').map pcl).flatten false)).set x2 (.cells (mcells { a with L := a.L.set i e'.q } lv') false)) := (Fr1.set _ _ _).frS (by simp)
    have hrg11 := hrg10.frS hfr2 (fun y b c g z q => by have := hlv9 _ _ _ _ _ q; simp; omega) (fun e he => ⟨fun y b c g z q => by have := (hoe' e he).1 _ _ _ _ _ q; simp; omega, fun y b c g z q => by have := (hoe' e he).2 _ _ _ _ _ q; simp; omega⟩)
    have E11 : Ext s0 ((t9.set t8.next (.cells ((L.set i e').map pcl).flatten false)).set x2 (.cells (mcells { a with L := a.L.set i e'.q } lv') false)) := ⟨by have := hx.next; show s0.next ≤ t9.next; omega, fun l hl => by rw [get_set, if_neg (by omega)]; exact ((hx.trans E10).get l hl)⟩
    obtain ⟨s', T1, T2, T3⟩ := tail_run (x2 := x2) (x4 := x4) (w := 4) (wi := 4) E11 (by rw [get_set, if_pos rfl]) (by rw [get_set, if_neg (by omega), get_set, if_neg (by omega), b4'.get x4 (by omega)]; exact hz8) hrg11 ⟨by omega, by omega, by show x4 < t9.next; omega⟩ (fun y b c g z q => by have := hlv9 _ _ _ _ _ q; simp; omega) (fun e he => ⟨fun y b c g z q => by have := (hoe' e he).1 _ _ _ _ _ q; simp; omega, fun y b c g z q => by have := (hoe' e he).2 _ _ _ _ _ q; simp; omega⟩) (by decide) rfl (.str ⟨#[]⟩)
    simp only [bnd, guard_tt, guard_ff, guard_tf, guard_ft, pick_t, pick_f, if_t, if_f, add_i, sub_i, lss_i, leq_i, gtr_i, geq_i, eql_i, neq_i, min_i, max_i, conv_i, len_sl, len_nil, not_b, cells_agg, new_s, fld_p, nil_p] at T1
    simp only [bnd, guard_tt, guard_ff, guard_tf, guard_ft, pick_t, pick_f, if_t, if_f, add_i, sub_i, lss_i, leq_i, gtr_i, geq_i, eql_i, neq_i, min_i, max_i, conv_i, len_sl, len_nil, not_b, cells_agg, new_s, fld_p, nil_p, ldl8, b1', hall9, ix9, hst9, hst10, hset10]
    have hs0n := hx.next
    refine ⟨lv', L.set i e', s', T1, T2, T3, fun y b c g z q => hnq y (by have := hlv9 _ _ _ _ _ q; omega), fun e he => ?_⟩
    rcases List.mem_or_eq_of_mem_set he with q | q
    · exact hoq.e e q
    · rw [q]
      exact ⟨fun y b c g z q2 => hnq y (by have := hrow1 _ _ _ _ _ q2; omega), fun y b c g z q2 => hnq y (by have := hrow2 _ _ _ _ _ q2; omega)⟩
end Go.Proofs.YtmkdpenpfkmfpaaDoor.Sim
