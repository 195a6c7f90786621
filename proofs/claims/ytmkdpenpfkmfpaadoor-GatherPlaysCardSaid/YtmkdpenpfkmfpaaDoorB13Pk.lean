/- Layer 13: the document's Put, from its start. No condition. -/
import Derived.Test.YtmkdpenpfkmfpaaDoorB13Pj
namespace Go.Proofs.YtmkdpenpfkmfpaaDoor.Sim
set_option linter.unusedSimpArgs false
set_option linter.unusedVariables false
variable {s s' : Store}

theorem res_tail {Q : Nat → Prop} {s0 t : Store} {x2 x3 x4 : Nat} {f : Frm} {lv : AV} {a : AG} {L : List PE} (h : PW Q s0 t x2 x3 x4 f lv a L) {w : Nat} {wi : Int} (hw : w < 6) (hwi : (w : Int) = wi) :
    ResR Q s0 (aFieldAddr 6 (.ptr x2 0 12) fun v1 => aIndexArr 6 1 v1 (AV.int .i64 wi) fun v2 => aLoad1 v2 t fun v3 => aBin .add v3 (AV.int .i64 1) fun v4 => aFieldAddr 6 (.ptr x2 0 12) fun v5 => aIndexArr 6 1 v5 (AV.int .i64 wi) fun v6 => aStore 1 v6 v4 t fun s7 => aLoadN 12 (.ptr x2 0 12) s7 fun v8 => aStore 12 (.ptr x4 0 12) v8 s7 fun s9 => aLoadN 12 (.ptr x4 0 12) s9 fun v10 => some (AV.tuple [v10, (AV.str ⟨#[]⟩), (AV.int .u8 wi)], s9)) ({ a with counts := countC a.counts w }, [], w) := by
  obtain ⟨s', T1, T2, T3⟩ := tail_run (x2 := x2) (x4 := x4) (w := w) (wi := wi) h.ext h.m h.z h.rg ⟨h.lo.1, by have := h.lo; omega, h.lo.2.2.2⟩ (fun y b c g z q => by have := h.offl _ _ _ _ _ q; have := h.lo; simp; omega) (fun e he => ⟨fun y b c g z q => by have := (h.offe e he).1 _ _ _ _ _ q; have := h.lo; simp; omega, fun y b c g z q => by have := (h.offe e he).2 _ _ _ _ _ q; have := h.lo; simp; omega⟩) hw hwi (.str ⟨#[]⟩)
  subst hwi
  exact ⟨lv, L, s', T1, T2, T3, h.off⟩
theorem PW.ext' {Q : Nat → Prop} {s0 t t' : Store} {x2 x3 x4 : Nat} {f : Frm} {lv : AV} {a : AG} {L : List PE} (h : PW Q s0 t x2 x3 x4 f lv a L) (e : Ext t t') : PW Q s0 t' x2 x3 x4 f lv a L :=
  ⟨h.ext.trans e, (e.get _ (by have := h.lo; omega)).trans h.m, (e.get _ (by have := h.lo; omega)).trans h.fr, (e.get _ h.lo.2.2.2).trans h.z, h.rg.ext e, ⟨h.lo.1, h.lo.2.1, h.lo.2.2.1, Nat.lt_of_lt_of_le h.lo.2.2.2 e.next⟩, h.offl, h.offe, h.off, h.new⟩

theorem rput_none {Q : Nat → Prop} {s0 t : Store} {x2 x3 x4 : Nat} {f : Frm} {lv : AV} {a : AG} {L : List PE} (h : PW Q s0 t x2 x3 x4 f lv a L) (hL : L.length ≤ 800000) (hw : f.Wf) {d : List Int} (hd : IsV s0 f.dv .u8 d) (hc : 1 ≤ a.chunk ∧ a.chunk ≤ 65536) (hr : rightB f a.chunk a.most d.length = true) (hm : a.most ≤ a.room ∧ a.room < 9223372036854775808) (hfit : ∀ q ∈ a.L, FitQ a.chunk q) (fu : Nat) (hfu : 1048577 < fu) (hok : (idOk f.id && rightB f a.chunk a.most d.length) = true) (hfind : ¬ findA f.id a.L < a.L.length) :
    ResR Q s0 (unisonref13_G_Put.p34 (fu + 1) (.ptr x2 0 12) (.ptr x3 0 16) (.ptr x4 0 12) (.int .i64 (-1)) t) (putA a f d) := by
  obtain ⟨r1, r2, r3, r4, r5, r6, r7, r8, r9, r10⟩ := right_of hr hw
  have hz0 := hw.size0
  have hcn := h.rg.cnt
  have hbq : ∀ q ∈ a.L, q.b.length ≤ 1048576 := fun q hq => (hfit q hq).size
  have hput : putA a f d = (if ((usedA a.L : Nat) : Int) > a.room - f.size ∧ a.wanted ≠ f.id then ({ a with counts := countC a.counts 3 }, [], 3)
      else layA { a with L := (cutA (a.room - f.size) a.L a.counts).1 ++ [AP.new f], counts := (cutA (a.room - f.size) a.L a.counts).2 } (cutA (a.room - f.size) a.L a.counts).1.length f d) := by
    unfold putA
    rw [if_neg (by rw [hok]; simp), List.getElem?_eq_none (by omega)]
  have hge : decide ((-1 : Int) ≥ 0) = false := rfl
  have hlt : decide ((-1 : Int) < 0) = true := rfl
  unfold unisonref13_G_Put.p34 unisonref13_G_Put.p33 unisonref13_G_Put.p32 unisonref13_G_Put.p31 unisonref13_G_Put.p30
  have ldr : ∀ {t' : Store}, t'.get x2 = .cells (mcells a lv) false → ∀ {α : Type} (c : AV → Option α), aLoad1 (.ptr x2 (0 + 2) 12) t' c = c (.int .i64 a.room) := fun {t'} ht {α} c => m_fld ht hcn (j := 2) (v := .int .i64 a.room) rfl c
  have mall := fun {α : Type} (c : AV → Option α) => m_all h.m hcn c
  obtain ⟨t1, u1, u2⟩ := rused_run h.rg (by omega) hbq fu (by omega)
  have h1 := h.ext' u2
  have lds : ∀ {t' : Store}, t'.get x3 = .cells f.cells false → ∀ {α : Type} (c : AV → Option α), aLoad1 (.ptr x3 (0 + 8) 16) t' c = c (.int .u32 f.size) := fun {t'} ht {α} c => g_ld ht rfl rfl c
  have w8 : IntKind.i64.wrap f.size = f.size := w_i64 (by omega) (by omega)
  have hub := used_bnd hbq
  rw [← h.rg.len] at hub
  have hub2 : L.length * 1048576 ≤ 800000 * 1048576 := Nat.mul_le_mul_right _ hL
  have w1 : IntKind.i64.wrap (a.room - ((usedA a.L : Nat) : Int)) = a.room - ((usedA a.L : Nat) : Int) := w_i64 (by omega) (by omega)
  have ldi : ∀ {α : Type} (c : AV → Option α), aLoadN 2 (.ptr x3 (0 + 3) 16) t1 c = c (.agg [.int .u8 f.id.1, .int .u64 f.id.2]) := fun {α} c => load_n h1.fr rfl (by show 3 + 2 ≤ 16; decide)
  have ldw : ∀ {α : Type} (c : AV → Option α), aLoadN 2 (.ptr x2 (0 + 4) 12) t1 c = c (.agg [.int .u8 a.wanted.1, .int .u64 a.wanted.2]) := fun {α} c => by
    have := load_n (off := 4) (n := 2) (κ := c) h1.m rfl (by rw [mcells_len hcn]; decide)
    rw [mcells_len hcn] at this
    exact this
  have T := res_tail h1 (w := 3) (wi := 3) (by decide) rfl
  have hpass : ¬ (((usedA a.L : Nat) : Int) > a.room - f.size ∧ a.wanted ≠ f.id) → ResR Q s0 (unisonref13_G_Put.p28 (fu + 1) (.ptr x2 0 12) (.ptr x3 0 16) (.ptr x4 0 12) (.int .i64 (-1)) t1) (putA a f d) := by
    intro hno
    rw [hput, if_neg hno]
    unfold unisonref13_G_Put.p28 unisonref13_G_Put.p27
    obtain ⟨t2, lv2, L2, k1, k2, k3⟩ := rcut_loop hw r8 fu (fu + 1) t1 lv a L (by omega) (by omega) hL ⟨by omega, hm.2⟩ hbq h1
    simp only [bnd, guard_tt, guard_ff, guard_tf, guard_ft, pick_t, pick_f, if_t, if_f, add_i, sub_i, lss_i, leq_i, gtr_i, geq_i, eql_i, neq_i, min_i, max_i, conv_i, len_sl, len_nil, not_b, cells_agg, new_s, fld_p, nil_p, hlt, k1]
    exact rnew_put k2 (by omega) hw hd hc hr fu hfu
  simp only [bnd, guard_tt, guard_ff, guard_tf, guard_ft, pick_t, pick_f, if_t, if_f, add_i, sub_i, lss_i, leq_i, gtr_i, geq_i, eql_i, neq_i, min_i, max_i, conv_i, len_sl, len_nil, not_b, cells_agg, new_s, fld_p, nil_p] at T
  simp only [bnd, guard_tt, guard_ff, guard_tf, guard_ft, pick_t, pick_f, if_t, if_f, add_i, sub_i, lss_i, leq_i, gtr_i, geq_i, eql_i, neq_i, min_i, max_i, conv_i, len_sl, len_nil, not_b, cells_agg, new_s, fld_p, nil_p, hge, guard_skip, hlt, ldr h.m, mall, u1, ldr h1.m, aSame_self, w1, lds h1.fr, lds h.fr, w8]
  unfold unisonref13_G_Put.p29
  by_cases hu : a.room - ((usedA a.L : Nat) : Int) < f.size
  · simp only [decide_eq_true hu, bnd, guard_tt, guard_ff, guard_tf, guard_ft, pick_t, pick_f, if_t, if_f, add_i, sub_i, lss_i, leq_i, gtr_i, geq_i, eql_i, neq_i, min_i, max_i, conv_i, len_sl, len_nil, not_b, cells_agg, new_s, fld_p, nil_p, ldi, ldw, eq_id]
    by_cases he : f.id = a.wanted
    · simp only [decide_eq_true he, Bool.not_true, bnd, guard_tt, guard_ff, guard_tf, guard_ft, pick_t, pick_f, if_t, if_f, add_i, sub_i, lss_i, leq_i, gtr_i, geq_i, eql_i, neq_i, min_i, max_i, conv_i, len_sl, len_nil, not_b, cells_agg, new_s, fld_p, nil_p]
      exact hpass fun q => q.2 he.symm
    · rw [hput, if_pos ⟨by omega, fun q => he q.symm⟩]
      simp only [decide_eq_false he, Bool.not_false, bnd, guard_tt, guard_ff, guard_tf, guard_ft, pick_t, pick_f, if_t, if_f, add_i, sub_i, lss_i, leq_i, gtr_i, geq_i, eql_i, neq_i, min_i, max_i, conv_i, len_sl, len_nil, not_b, cells_agg, new_s, fld_p, nil_p]
      exact T
  · simp only [decide_eq_false hu, bnd, guard_tt, guard_ff, guard_tf, guard_ft, pick_t, pick_f, if_t, if_f, add_i, sub_i, lss_i, leq_i, gtr_i, geq_i, eql_i, neq_i, min_i, max_i, conv_i, len_sl, len_nil, not_b, cells_agg, new_s, fld_p, nil_p, guard_skip]
    exact hpass fun q => by omega

theorem rput_there {Q : Nat → Prop} {s0 t : Store} {x2 x3 x4 : Nat} {f : Frm} {lv : AV} {a : AG} {L : List PE} (h : PW Q s0 t x2 x3 x4 f lv a L) (hL : L.length ≤ 800000) (hw : f.Wf) {d : List Int} (hd : IsV s0 f.dv .u8 d) (hc : 1 ≤ a.chunk ∧ a.chunk ≤ 65536) (hr : rightB f a.chunk a.most d.length = true) (hfit : ∀ q ∈ a.L, FitQ a.chunk q) (fu : Nat) (hfu : 1048577 < fu) (hok : (idOk f.id && rightB f a.chunk a.most d.length) = true) {i : Nat} (hi : i < L.length) (hfind : findA f.id a.L = i) :
    ResR Q s0 (unisonref13_G_Put.p34 (fu + 1) (.ptr x2 0 12) (.ptr x3 0 16) (.ptr x4 0 12) (.int .i64 (i : Int)) t) (putA a f d) := by
  obtain ⟨r1, r2, r3, r4, r5, r6, r7, r8, r9, r10⟩ := right_of hr hw
  have hz0 := hw.size0
  have hcn := h.rg.cnt
  have hget := h.rg.get hi
  have hmem : L[i].q ∈ a.L := List.mem_of_getElem? hget
  have hf := hfit _ hmem
  have hput : putA a f d = (if ((L[i].q.b.length : Nat) : Int) ≠ f.size then ({ a with counts := countC a.counts 1 }, [], 1)
      else if (decide (f.at_ < L[i].q.n) && bitW L[i].q.W f.at_.toNat) = true then ({ a with counts := countC a.counts 2 }, [], 2)
      else layA a i f d) := by
    unfold putA
    rw [if_neg (by rw [hok]; simp), hfind, hget]
  have T1 := res_tail h (w := 1) (wi := 1) (by decide) rfl
  have T2 := res_tail h (w := 2) (wi := 2) (by decide) rfl
  simp only [bnd, guard_tt, guard_ff, guard_tf, guard_ft, pick_t, pick_f, if_t, if_f, add_i, sub_i, lss_i, leq_i, gtr_i, geq_i, eql_i, neq_i, min_i, max_i, conv_i, len_sl, len_nil, not_b, cells_agg, new_s, fld_p, nil_p] at T1 T2
  have hge : decide ((i : Int) ≥ 0) = true := decide_eq_true (by omega)
  have hlt : decide ((i : Int) < 0) = false := decide_eq_false (by omega)
  have ldl := fun {α : Type} (c : AV → Option α) => m_fld h.m hcn (j := 3) (v := lv) rfl c
  obtain ⟨id, ep, a1, a2, a3, a4⟩ := pl_at h.rg.l hi
  have ldz := fun {α : Type} (c : AV → Option α) => a2 (j := 2) (v := .int .i64 (L[i].q.b.length : Int)) rfl c
  have ldh := fun {α : Type} (c : AV → Option α) => a2 (j := 3) (v := L[i].hv) rfl c
  have lds : ∀ {α : Type} (c : AV → Option α), aLoad1 (.ptr x3 (0 + 8) 16) t c = c (.int .u32 f.size) := fun c => g_ld h.fr rfl rfl c
  have w8 : IntKind.i64.wrap f.size = f.size := w_i64 (by omega) (by omega)
  have hneq : (((L[i].q.b.length : Nat) : Int) != f.size) = decide (((L[i].q.b.length : Nat) : Int) ≠ f.size) := by
    by_cases q : ((L[i].q.b.length : Nat) : Int) = f.size <;> simp [q]
  unfold unisonref13_G_Put.p34 unisonref13_G_Put.p33
  simp only [bnd, guard_tt, guard_ff, guard_tf, guard_ft, pick_t, pick_f, if_t, if_f, add_i, sub_i, lss_i, leq_i, gtr_i, geq_i, eql_i, neq_i, min_i, max_i, conv_i, len_sl, len_nil, not_b, cells_agg, new_s, fld_p, nil_p, hge, ldl, a1, ldz, lds, w8, hneq]
  rw [hput]
  by_cases hs : ((L[i].q.b.length : Nat) : Int) ≠ f.size
  · rw [if_pos hs]
    simp only [decide_eq_true hs, bnd, guard_tt, guard_ff, guard_tf, guard_ft, pick_t, pick_f, if_t, if_f, add_i, sub_i, lss_i, leq_i, gtr_i, geq_i, eql_i, neq_i, min_i, max_i, conv_i, len_sl, len_nil, not_b, cells_agg, new_s, fld_p, nil_p]
    exact T1
  rw [if_neg hs]
  simp only [decide_eq_false hs, bnd, guard_tt, guard_ff, guard_tf, guard_ft, pick_t, pick_f, if_t, if_f, add_i, sub_i, lss_i, leq_i, gtr_i, geq_i, eql_i, neq_i, min_i, max_i, conv_i, len_sl, len_nil, not_b, cells_agg, new_s, fld_p, nil_p]
  have hbl : ((L[i].q.b.length : Nat) : Int) = f.size := Classical.byContradiction hs
  have hqn : (L[i].q.n : Int) = f.of := by rw [hf.n, hbl, r3]
  obtain ⟨j, hj⟩ : ∃ j : Nat, f.at_ = (j : Int) := ⟨f.at_.toNat, by have := hw.at0; omega⟩
  have hjn : j < L[i].q.n := by omega
  obtain ⟨hs', cs, he⟩ := h.rg.each _ (List.getElem_mem hi)
  have hjh : j < hs'.length := by rw [he.good.hl]; exact hjn
  obtain ⟨p, p1, p2⟩ := elemL (c := bc) (es := 1) (fun _ => rfl) he.h hjh
  have ld1 := fun {α : Type} (c : AV → Option α) => load1_of (v := .bool hs'[j]) p2 c
  have hb := he.good.bits j hjn
  rw [List.getElem?_eq_getElem hjh] at hb
  have lda : ∀ {α : Type} (c : AV → Option α), aLoad1 (.ptr x3 (0 + 6) 16) t c = c (.int .u32 (j : Int)) := fun c => by rw [← hj]; exact g_ld h.fr rfl rfl c
  unfold unisonref13_G_Put.p32 unisonref13_G_Put.p31
  simp only [bnd, guard_tt, guard_ff, guard_tf, guard_ft, pick_t, pick_f, if_t, if_f, add_i, sub_i, lss_i, leq_i, gtr_i, geq_i, eql_i, neq_i, min_i, max_i, conv_i, len_sl, len_nil, not_b, cells_agg, new_s, fld_p, nil_p, hge, ldl, a1, ldh, lda, p1, ld1]
  rw [Option.some.inj hb, hj, decide_eq_true (show (j : Int) < (L[i].q.n : Int) by omega), Bool.true_and, Int.toNat_natCast]
  cases hbit : bitW L[i].q.W j
  rotate_left
  · rw [if_pos rfl]
    simp only [bnd, guard_tt, guard_ff, guard_tf, guard_ft, pick_t, pick_f, if_t, if_f, add_i, sub_i, lss_i, leq_i, gtr_i, geq_i, eql_i, neq_i, min_i, max_i, conv_i, len_sl, len_nil, not_b, cells_agg, new_s, fld_p, nil_p]
    exact T2
  rw [if_neg (by decide)]
  unfold unisonref13_G_Put.p30 unisonref13_G_Put.p29 unisonref13_G_Put.p28 unisonref13_G_Put.p27 unisonref13_G_Put.p26
  simp only [bnd, guard_tt, guard_ff, guard_tf, guard_ft, pick_t, pick_f, if_t, if_f, add_i, sub_i, lss_i, leq_i, gtr_i, geq_i, eql_i, neq_i, min_i, max_i, conv_i, len_sl, len_nil, not_b, cells_agg, new_s, fld_p, nil_p, hlt, guard_skip]
  obtain ⟨k, hk, hk1, hk2, hk3⟩ := hf.pos hc
  have hjk := countQ_at (sz := L[i].q.b.length) hk1 (i := j) (by omega)
  have hdl : d.length = min k (L[i].q.b.length - j * k) := by
    rw [lengthN, if_pos ⟨by omega, by omega⟩, hj, hk, ← Int.natCast_mul] at r5
    omega
  exact rlay_run h hi (by omega) hk ⟨hk1, hk2⟩ hf hj hjn hjk (hd.ext h.ext) hdl fu hfu

/-- A frame is put into the document's gatherer. -/
theorem rput_run {Q : Nat → Prop} (hQ : ∀ i, s.next ≤ i → Q i) {lv : AV} {a : AG} {L : List PE} {f : Frm} {d : List Int} (hg : RG s lv a L) (hoff : Off Q lv L) (hL : L.length ≤ 800000) (hw : f.Wf) (hid : 0 ≤ f.id.1 ∧ f.id.1 < 256) (hd : IsV s f.dv .u8 d) (hc : 1 ≤ a.chunk ∧ a.chunk ≤ 65536) (hm : a.most ≤ a.room ∧ a.room < 9223372036854775808) (hfit : ∀ q ∈ a.L, FitQ a.chunk q) (fu : Nat) (hfu : 1048577 < fu) :
    ResR Q s (rn (fu + 4) 9 [.agg (mcells a lv), .agg f.cells] s) (putA a f d) := by
  rw [show fu + 4 = (fu + 3) + 1 from rfl, unisonref13_G_Put.eq]
  unfold unisonref13_G_Put.f unisonref13_G_Put.p37
  have hcn := hg.cnt
  have e1 := Ext.push s (.cells (mcells a lv) false)
  have hx1 : (s.push (.cells (mcells a lv) false)).get s.next = .cells (mcells a lv) false := by rw [get_push, if_pos rfl]
  have n1 : (s.push (.cells (mcells a lv) false)).next = s.next + 1 := rfl
  have hfl : f.cells.length = 16 := rfl
  simp only [cells_agg, new_s, mcells_len hcn, hfl]
  generalize s.push (.cells (mcells a lv) false) = s1 at e1 hx1 n1 ⊢
  have e2 := Ext.push s1 (.cells f.cells false)
  have hx2 := (e2.get s.next (by omega)).trans hx1
  have g2 : (s1.push (.cells f.cells false)).get s1.next = .cells f.cells false := by rw [get_push, if_pos rfl]
  have n2 : (s1.push (.cells f.cells false)).next = s1.next + 1 := rfl
  have e12 := e1.trans e2
  generalize s1.push (.cells f.cells false) = s2 at e2 hx2 g2 n2 e12 ⊢
  rw [zero12_eq, zero12_len]
  have e3 := Ext.push s2 (.cells zero12 false)
  have hx3 := (e3.get s.next (by omega)).trans hx2
  have g3 := (e3.get s1.next (by omega)).trans g2
  have z3 : (s2.push (.cells zero12 false)).get s2.next = .cells zero12 false := by rw [get_push, if_pos rfl]
  have n3 : (s2.push (.cells zero12 false)).next = s2.next + 1 := rfl
  have e13 := e12.trans e3
  generalize s2.push (.cells zero12 false) = s3 at e3 hx3 g3 z3 n3 e13 ⊢
  have hfar : ∀ {β : Type} {c : β → List AV} {es : Nat} {v : AV} {l : List β}, IsL c es s v l → ∀ i b c d g, v = .sl i b c d g → i < s.next := fun hv i b c d g q => by
    rcases hv with ⟨q1, _⟩ | ⟨id, ro, q1, q2, _⟩
    · rw [q1] at q; cases q
    · rw [q1] at q
      injection q with q
      omega
  have h3 : PW Q s s3 s.next s1.next s2.next f lv a L := by
    refine ⟨e13, hx3, g3, z3, hg.ext e13, ⟨Nat.le_refl _, by omega, by omega, by omega⟩, fun i b c d g q => .inl (hfar hg.l _ _ _ _ _ q), fun e he => ?_, hoff, hQ⟩
    obtain ⟨hs, cs, q⟩ := hg.each e he
    exact ⟨fun i b c d g q2 => .inl (hfar q.h _ _ _ _ _ q2), fun i b c d g q2 => .inl (hfar q.c _ _ _ _ _ q2)⟩
  unfold unisonref13_G_Put.p36
  have ldi : ∀ {t : Store}, t.get s1.next = .cells f.cells false → ∀ {α : Type} (c : AV → Option α), aLoadN 2 (.ptr s1.next (0 + 3) 16) t c = c (.agg [.int .u8 f.id.1, .int .u64 f.id.2]) := fun {t} ht {α} c => load_n ht rfl (by show 3 + 2 ≤ 16; decide)
  obtain ⟨t1, m1, m2⟩ := may3_run f.id hid (fu + 2) s3
  have h4 := h3.ext' m2
  have ldf : ∀ {α : Type} (c : AV → Option α), aLoadN 16 (.ptr s1.next 0 16) t1 c = c (.agg f.cells) := fun {α} c => load_n h4.fr rfl (by show 0 + 16 ≤ 16; decide)
  have ldc := fun {α : Type} (c : AV → Option α) => m_fld h4.m hcn (j := 0) (v := .int .i64 a.chunk) rfl c
  have ldm := fun {α : Type} (c : AV → Option α) => m_fld h4.m hcn (j := 1) (v := .int .i64 a.most) rfl c
  have hbad : (idOk f.id && rightB f a.chunk a.most d.length) = false → putA a f d = ({ a with counts := countC a.counts 1 }, [], 1) := fun hok => by
    unfold putA
    rw [if_pos hok]
  simp only [bnd, guard_tt, guard_ff, guard_tf, guard_ft, pick_t, pick_f, if_t, if_f, add_i, sub_i, lss_i, leq_i, gtr_i, geq_i, eql_i, neq_i, min_i, max_i, conv_i, len_sl, len_nil, not_b, cells_agg, new_s, fld_p, nil_p, ldi h3.fr, m1]
  cases hok1 : idOk f.id
  · have T := res_tail h4 (w := 1) (wi := 1) (by decide) rfl
    rw [hbad (by rw [hok1]; rfl)]
    simp only [bnd, guard_tt, guard_ff, guard_tf, guard_ft, pick_t, pick_f, if_t, if_f, add_i, sub_i, lss_i, leq_i, gtr_i, geq_i, eql_i, neq_i, min_i, max_i, conv_i, len_sl, len_nil, not_b, cells_agg, new_s, fld_p, nil_p] at T
    simp only [bnd, guard_tt, guard_ff, guard_tf, guard_ft, pick_t, pick_f, if_t, if_f, add_i, sub_i, lss_i, leq_i, gtr_i, geq_i, eql_i, neq_i, min_i, max_i, conv_i, len_sl, len_nil, not_b, cells_agg, new_s, fld_p, nil_p, Bool.not_false, guard_skip]
    exact T
  obtain ⟨t2, k1, k2⟩ := right12_run hw (hd.ext (e13.trans m2)) (chunk := a.chunk) (most := a.most) hc fu (by omega)
  have h5 := h4.ext' k2
  simp only [bnd, guard_tt, guard_ff, guard_tf, guard_ft, pick_t, pick_f, if_t, if_f, add_i, sub_i, lss_i, leq_i, gtr_i, geq_i, eql_i, neq_i, min_i, max_i, conv_i, len_sl, len_nil, not_b, cells_agg, new_s, fld_p, nil_p, Bool.not_true, ldf, ldc, ldm, k1]
  cases hok2 : rightB f a.chunk a.most d.length
  · have T := res_tail h5 (w := 1) (wi := 1) (by decide) rfl
    rw [hbad (by rw [hok1, hok2]; rfl)]
    simp only [bnd, guard_tt, guard_ff, guard_tf, guard_ft, pick_t, pick_f, if_t, if_f, add_i, sub_i, lss_i, leq_i, gtr_i, geq_i, eql_i, neq_i, min_i, max_i, conv_i, len_sl, len_nil, not_b, cells_agg, new_s, fld_p, nil_p] at T
    simp only [bnd, guard_tt, guard_ff, guard_tf, guard_ft, pick_t, pick_f, if_t, if_f, add_i, sub_i, lss_i, leq_i, gtr_i, geq_i, eql_i, neq_i, min_i, max_i, conv_i, len_sl, len_nil, not_b, cells_agg, new_s, fld_p, nil_p, Bool.not_false]
    exact T
  simp only [bnd, guard_tt, guard_ff, guard_tf, guard_ft, pick_t, pick_f, if_t, if_f, add_i, sub_i, lss_i, leq_i, gtr_i, geq_i, eql_i, neq_i, min_i, max_i, conv_i, len_sl, len_nil, not_b, cells_agg, new_s, fld_p, nil_p, Bool.not_true]
  have hok : (idOk f.id && rightB f a.chunk a.most d.length) = true := by rw [hok1, hok2]; rfl
  unfold unisonref13_G_Put.p35
  have mall := fun {α : Type} (c : AV → Option α) => m_all h5.m hcn c
  obtain ⟨t3, f1, f2⟩ := rfind_run h5.rg (by omega) f.id (fu + 2) (by omega)
  have f1' : rn (fu + 3) 26 [.agg (mcells a lv), .agg [.int .u8 f.id.1, .int .u64 f.id.2]] t2 = _ := f1
  have h6 := h5.ext' f2
  simp only [bnd, guard_tt, guard_ff, guard_tf, guard_ft, pick_t, pick_f, if_t, if_f, add_i, sub_i, lss_i, leq_i, gtr_i, geq_i, eql_i, neq_i, min_i, max_i, conv_i, len_sl, len_nil, not_b, cells_agg, new_s, fld_p, nil_p, mall, ldi h5.fr, f1']
  by_cases hf : findA f.id a.L < a.L.length
  · rw [if_pos hf]
    exact rput_there h6 hL hw hd hc hok2 hfit (fu + 2) (by omega) hok (i := findA f.id a.L) (by rw [hg.len]; exact hf) rfl
  · rw [if_neg hf]
    exact rput_none h6 hL hw hd hc hok2 hm hfit (fu + 2) (by omega) hok hf
end Go.Proofs.YtmkdpenpfkmfpaaDoor.Sim
