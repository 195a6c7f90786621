/- Layer 22: the law InstLocks. No condition. -/
import Derived.Test.YtmaidlndikcgkaaB22LocksA
namespace Go.Proofs.Ytmaidlndikcgkaa.Sim
set_option linter.unusedSimpArgs false
set_option linter.unusedVariables false
variable {s s' : Store} {M M' : List Nat} {w : WV} {ps : List PP} {sent : List OFV}

/-- The world at the end: nothing is written into it any more. -/
structure EndW (s : Store) (wr n : Nat) (M : List Nat) (w : WV) (ps : List PP) (sent : List OFV) : Prop where
  iw : IsW s M w ps sent
  len : ps.length = n
  g : s.get wr = .cells (wvals n w) false
  wl : wr < s.next
theorem EndW.ext {wr n : Nat} (h : EndW s wr n M w ps sent) (e : Ext s s') : EndW s' wr n M w ps sent := ⟨h.iw.ext e, h.len, (e.get _ h.wl).trans h.g, Nat.lt_of_lt_of_le h.wl e.next⟩
theorem EndW.ld {wr n : Nat} (h : EndW s wr n M w ps sent) {α : Type} (c : AV → Option α) : aLoad1 (.ptr wr (0 + 3) 4) s c = c w.sv := ld_fld h.g rfl rfl c
theorem lk_in (k : Nat) (hk : 1001 ≤ k) (hk2 : k ≤ 100000) {n wr xr : Nat} {F : OFV} {R0 : AV → AV → AV → Store → Option (AV × Store)} (hsl : sent.length ≤ 1000000) (hlock : ∀ g ∈ sent, g.1.kind = 6 → F.1.round < g.1.round → g.1.est = F.1.aux) (x0 x9 : AV) : ∀ (f j : Nat) (s : Store), EndW s wr n M w ps sent → s.get xr = .cells (oc 1 F) false → xr < s.next → OFs s M F → j ≤ sent.length → sent.length - j < f →
    ∃ s', unisonlaw22_InstLocks.l0 (k + 11) R0 f x0 (.ptr wr 0 4) x9 (.ptr xr 0 16) (.int .i64 (j : Int)) s = unisonlaw22_InstLocks.p1 (k + 11) R0 x0 (.ptr wr 0 4) x9 s' ∧ Ext s s' := by
  intro f
  induction f with
  | zero => intro j s _ _ _ _ _ hf; omega
  | succ f ih =>
    intro j s h gx hx hF hj hf
    have hs : unisonlaw22_InstLocks.l0 (k + 11) R0 (f + 1) x0 (.ptr wr 0 4) x9 (.ptr xr 0 16) (.int .i64 (j : Int)) s = unisonlaw22_InstLocks.p4 (k + 11) R0 (unisonlaw22_InstLocks.l0 (k + 11) R0 f) x0 (.ptr wr 0 4) x9 (.ptr xr 0 16) (.int .i64 (j : Int)) s := rfl
    rw [hs]
    unfold unisonlaw22_InstLocks.p4
    have hsl2 := fun {α : Type} (c : AV → Option α) => lenL h.iw.sentIs c
    have ld := fun {α : Type} (c : AV → Option α) => h.ld c
    simp only [fld_p, ld, hsl2, lss_i]
    by_cases hin : (j : Int) < (sent.length : Int)
    rotate_left
    · simp only [decide_eq_false hin, if_f]
      exact ⟨s, rfl, Ext.refl s⟩
    have hj' : j < sent.length := by omega
    simp only [decide_eq_true hin, if_t]
    unfold unisonlaw22_InstLocks.p3
    obtain ⟨p, q1, q2⟩ := elemL (oc_len 1) h.iw.sentIs hj'
    have hw1 : IntKind.i64.wrap ((j : Int) + 1) = ((j + 1 : Nat) : Int) := by rw [w_i64 (by omega) (by omega)]; omega
    simp only [fld_p, ld, q1, q2]
    rw [cp16]
    have e1 := cp_ext s sent[j]
    have g1 := cp_get s sent[j]
    generalize (s.push (.cells zero16 false)).set s.next (.cells (oc 1 sent[j]) false) = s1 at e1 g1 ⊢
    have lf : ∀ {i : Nat} {w : AV}, (oc 1 sent[j])[i]? = some w → ∀ {α : Type} (c : AV → Option α), aLoad1 (.ptr s.next (0 + i) 16) s1 c = c w := fun {i w} hw {α} c => ld_fld g1 rfl hw c
    have lf0 : ∀ {α : Type} (c : AV → Option α), aLoad1 (.ptr s.next (0 + 0 + 0) 16) s1 c = c (.int .u8 (sent[j].1.kind : Int)) := fun {α} c => lf (i := 0) rfl c
    have lx : ∀ {i : Nat} {w : AV}, (oc 1 F)[i]? = some w → ∀ {α : Type} (c : AV → Option α), aLoad1 (.ptr xr (0 + i) 16) s1 c = c w := fun {i w} hw {α} c => ld_fld ((e1.get _ hx).trans gx) rfl hw c
    have h1 := h.ext e1
    have hfj := h1.iw.of sent[j] (List.getElem_mem hj')
    have hF1 := hF.ext e1
    have hsame := same_run hfj.1.est.is hF1.aux.is (by have := hfj.1.est.len; omega) (k + 10) (by have := hfj.1.est.len; omega)
    have next : ∃ s', unisonlaw22_InstLocks.p2 (k + 11) R0 (unisonlaw22_InstLocks.l0 (k + 11) R0 f) x0 (.ptr wr 0 4) x9 (.ptr xr 0 16) (.int .i64 (j : Int)) s1 = unisonlaw22_InstLocks.p1 (k + 11) R0 x0 (.ptr wr 0 4) x9 s' ∧ Ext s s' := by
      unfold unisonlaw22_InstLocks.p2
      simp only [add_i, hw1]
      obtain ⟨s', b1, b2⟩ := ih (j + 1) s1 h1 ((e1.get _ hx).trans gx) (Nat.lt_of_lt_of_le hx e1.next) hF1 (by omega) (by omega)
      exact ⟨s', b1, e1.trans b2⟩
    simp only [lf0, bnd, guard_tt, guard_ff, guard_tf, guard_ft, pick_t, pick_f, if_t, if_f, add_i, sub_i, lss_i, leq_i, gtr_i, geq_i, eql_i, neq_i, min_i, max_i, conv_i, len_sl, len_nil, not_b, cells_agg, new_s, fld_p, nil_p]
    by_cases k6 : sent[j].1.kind = 6
    rotate_left
    · have : ((sent[j].1.kind : Int) == 6) = false := by simp; omega
      simp only [this, bnd, guard_tt, guard_ff, guard_tf, guard_ft, pick_t, pick_f, if_t, if_f, add_i, sub_i, lss_i, leq_i, gtr_i, geq_i, eql_i, neq_i, min_i, max_i, conv_i, len_sl, len_nil, not_b, cells_agg, new_s, fld_p, nil_p, guard_skip]
      exact next
    have : ((sent[j].1.kind : Int) == 6) = true := by simp [k6]
    simp only [this, bnd, guard_tt, guard_ff, guard_tf, guard_ft, pick_t, pick_f, if_t, if_f, add_i, sub_i, lss_i, leq_i, gtr_i, geq_i, eql_i, neq_i, min_i, max_i, conv_i, len_sl, len_nil, not_b, cells_agg, new_s, fld_p, nil_p, lf (i := 10) rfl, lx (i := 10) rfl]
    by_cases kr : sent[j].1.round > F.1.round
    rotate_left
    · simp only [decide_eq_false kr, bnd, guard_tt, guard_ff, guard_tf, guard_ft, pick_t, pick_f, if_t, if_f, add_i, sub_i, lss_i, leq_i, gtr_i, geq_i, eql_i, neq_i, min_i, max_i, conv_i, len_sl, len_nil, not_b, cells_agg, new_s, fld_p, nil_p, guard_skip]
      exact next
    have heq := hlock sent[j] (List.getElem_mem hj') k6 kr
    simp only [decide_eq_true kr, bnd, guard_tt, guard_ff, guard_tf, guard_ft, pick_t, pick_f, if_t, if_f, add_i, sub_i, lss_i, leq_i, gtr_i, geq_i, eql_i, neq_i, min_i, max_i, conv_i, len_sl, len_nil, not_b, cells_agg, new_s, fld_p, nil_p, lf (i := 11) rfl, lx (i := 12) rfl, hsame, decide_eq_true heq, Bool.not_true]
    exact next
theorem lk_out (k : Nat) (hk : 1001 ≤ k) (hk2 : k ≤ 100000) {n wr : Nat} (hn : 1 ≤ n ∧ n ≤ 64) (hsl : sent.length ≤ 1000) (hsrc : ∀ f ∈ sent, f.1.src < n) (hlock : ∀ (r : Int) (v : List Rn) (m : List Bool), Met n sent r v m → v ≠ [] → n / 2 + 1 ≤ m.countP (· = true) → ∀ g ∈ sent, g.1.kind = 6 → r < g.1.round → g.1.est = v) : ∀ (f j : Nat) (s : Store), EndW s wr n M w ps sent → j ≤ sent.length → sent.length - j < f →
    ∃ s', unisonlaw22_InstLocks.l1 (k + 11) f (.int .i64 (n : Int)) (.ptr wr 0 4) (.int .i64 (j : Int)) s = some (.bool true, s') := by
  intro f
  induction f with
  | zero => intro j s _ _ hf; omega
  | succ f ih =>
    intro j s h hj hf
    have hs : unisonlaw22_InstLocks.l1 (k + 11) (f + 1) (.int .i64 (n : Int)) (.ptr wr 0 4) (.int .i64 (j : Int)) s = unisonlaw22_InstLocks.p8 (k + 11) (unisonlaw22_InstLocks.l1 (k + 11) f) (.int .i64 (n : Int)) (.ptr wr 0 4) (.int .i64 (j : Int)) s := rfl
    rw [hs]
    unfold unisonlaw22_InstLocks.p8
    have hsl2 := fun {α : Type} (c : AV → Option α) => lenL h.iw.sentIs c
    have ld := fun {α : Type} (c : AV → Option α) => h.ld c
    simp only [fld_p, ld, hsl2, lss_i]
    by_cases hin : (j : Int) < (sent.length : Int)
    rotate_left
    · simp only [decide_eq_false hin, if_f]
      unfold unisonlaw22_InstLocks.p0
      rw [awake_rn (k + 10) s]
      exact ⟨s, rfl⟩
    have hj' : j < sent.length := by omega
    simp only [decide_eq_true hin, if_t]
    unfold unisonlaw22_InstLocks.p7
    obtain ⟨p, q1, q2⟩ := elemL (oc_len 1) h.iw.sentIs hj'
    have hw1 : IntKind.i64.wrap ((j : Int) + 1) = ((j + 1 : Nat) : Int) := by rw [w_i64 (by omega) (by omega)]; omega
    simp only [fld_p, ld, q1, q2]
    rw [cp16]
    have e1 := cp_ext s sent[j]
    have g1 := cp_get s sent[j]
    have n1 : s.next < ((s.push (.cells zero16 false)).set s.next (.cells (oc 1 sent[j]) false)).next := Nat.lt_succ_self _
    generalize (s.push (.cells zero16 false)).set s.next (.cells (oc 1 sent[j]) false) = s1 at e1 g1 n1 ⊢
    have lf : ∀ {t : Store}, Ext s1 t → ∀ {i : Nat} {w : AV}, (oc 1 sent[j])[i]? = some w → ∀ {α : Type} (c : AV → Option α), aLoad1 (.ptr s.next (0 + i) 16) t c = c w := fun {t} e {i w} hw {α} c => ld_fld ((e.get _ n1).trans g1) rfl hw c
    have lf0 : ∀ {α : Type} (c : AV → Option α), aLoad1 (.ptr s.next (0 + 0 + 0) 16) s1 c = c (.int .u8 (sent[j].1.kind : Int)) := fun {α} c => lf (Ext.refl _) (i := 0) rfl c
    have h1 := h.ext e1
    have hfj := h1.iw.of sent[j] (List.getElem_mem hj')
    have next : ∀ {t : Store}, Ext s t → ∃ s', unisonlaw22_InstLocks.p1 (k + 11) (unisonlaw22_InstLocks.l1 (k + 11) f) (.int .i64 (n : Int)) (.ptr wr 0 4) (.int .i64 (j : Int)) t = some (.bool true, s') := fun {t} e => by
      unfold unisonlaw22_InstLocks.p1
      simp only [add_i, hw1]
      exact ih (j + 1) t (h.ext e) (by omega) (by omega)
    unfold unisonlaw22_InstLocks.p6
    simp only [lf0, bnd, guard_tt, guard_ff, guard_tf, guard_ft, pick_t, pick_f, if_t, if_f, add_i, sub_i, lss_i, leq_i, gtr_i, geq_i, eql_i, neq_i, min_i, max_i, conv_i, len_sl, len_nil, not_b, cells_agg, new_s, fld_p, nil_p]
    by_cases k7 : sent[j].1.kind = 7
    rotate_left
    · have : ((sent[j].1.kind : Int) != 7) = true := by simp; omega
      simp only [this, bnd, guard_tt, guard_ff, guard_tf, guard_ft, pick_t, pick_f, if_t, if_f, add_i, sub_i, lss_i, leq_i, gtr_i, geq_i, eql_i, neq_i, min_i, max_i, conv_i, len_sl, len_nil, not_b, cells_agg, new_s, fld_p, nil_p, guard_skip]
      exact next e1
    have : ((sent[j].1.kind : Int) != 7) = false := by simp [k7]
    have hlen := fun {α : Type} (c : AV → Option α) => len_runs hfj.1.aux.is c
    simp only [this, bnd, guard_tt, guard_ff, guard_tf, guard_ft, pick_t, pick_f, if_t, if_f, add_i, sub_i, lss_i, leq_i, gtr_i, geq_i, eql_i, neq_i, min_i, max_i, conv_i, len_sl, len_nil, not_b, cells_agg, new_s, fld_p, nil_p, lf (Ext.refl _) (i := 12) rfl, hlen]
    by_cases ka : sent[j].1.aux = []
    · have : (((sent[j].1.aux.length : Nat) : Int) == 0) = true := by rw [ka]; rfl
      simp only [this, bnd, guard_tt, guard_ff, guard_tf, guard_ft, pick_t, pick_f, if_t, if_f, add_i, sub_i, lss_i, leq_i, gtr_i, geq_i, eql_i, neq_i, min_i, max_i, conv_i, len_sl, len_nil, not_b, cells_agg, new_s, fld_p, nil_p, guard_skip]
      exact next e1
    have : (((sent[j].1.aux.length : Nat) : Int) == 0) = false := by
      cases hq : sent[j].1.aux with
      | nil => exact absurd hq ka
      | cons x l => simp; omega
    obtain ⟨s2, m, v1, v2, v3⟩ := voted_run h1.iw h.len (r := sent[j].1.round) hfj.1.aux.is hfj.1.aux.len hn.2 hsrc (k + 8) (by omega) (by omega) (by omega)
    have v1' : rn (k + 11) 12 [.agg (wvals n w), .int .u64 sent[j].1.round, sent[j].2.2] s1 = some (.int .i64 ((m.countP (· = true) : Nat) : Int), s2) := v1
    have mj := fun t => rmaj_run hn (k + 10) (by omega) t
    simp only [this, bnd, guard_tt, guard_ff, guard_tf, guard_ft, pick_t, pick_f, if_t, if_f, add_i, sub_i, lss_i, leq_i, gtr_i, geq_i, eql_i, neq_i, min_i, max_i, conv_i, len_sl, len_nil, not_b, cells_agg, new_s, fld_p, nil_p, ld_all h1.g (wv_len _ _), lf (Ext.refl _) (i := 10) rfl, lf (Ext.refl _) (i := 12) rfl, v1', mj]
    by_cases km : ((m.countP (· = true) : Nat) : Int) < ((n / 2 + 1 : Nat) : Int)
    · simp only [decide_eq_true km, bnd, guard_tt, guard_ff, guard_tf, guard_ft, pick_t, pick_f, if_t, if_f, add_i, sub_i, lss_i, leq_i, gtr_i, geq_i, eql_i, neq_i, min_i, max_i, conv_i, len_sl, len_nil, not_b, cells_agg, new_s, fld_p, nil_p]
      exact next (e1.trans v3)
    simp only [decide_eq_false km, bnd, guard_tt, guard_ff, guard_tf, guard_ft, pick_t, pick_f, if_t, if_f, add_i, sub_i, lss_i, leq_i, gtr_i, geq_i, eql_i, neq_i, min_i, max_i, conv_i, len_sl, len_nil, not_b, cells_agg, new_s, fld_p, nil_p]
    unfold unisonlaw22_InstLocks.p5
    obtain ⟨s3, c1, c2⟩ := lk_in (M := M) (w := w) (ps := ps) (sent := sent) k hk hk2 (n := n) (wr := wr) (xr := s.next) (F := sent[j]) (R0 := unisonlaw22_InstLocks.l1 (k + 11) f) (by omega) (hlock _ _ m v2 ka (by omega)) (.int .i64 (n : Int)) (.int .i64 (j : Int)) (k + 11) 0 s2 (h1.ext v3) ((v3.get _ n1).trans g1) (Nat.lt_of_lt_of_le n1 v3.next) (hfj.1.ext v3) (by omega) (by omega)
    rw [show ((0 : Nat) : Int) = 0 from rfl] at c1
    rw [c1]
    exact next ((e1.trans v3).trans c2)
def lkPI (n : Nat) (cs : List Int) : PI := fun i l o => i ≤ 300 → PInv n cs i l o
theorem lkPI_step (n : Nat) (cs : List Int) (i : Nat) (l : List PM) (o : List OF) (l' : List PM) (o' : List OF) (h : lkPI n cs i l o) (st : PStep l o l' o') : lkPI n cs (i + 1) l' o' := fun hi => pstep_pinv (h (by omega)) (by omega) st
theorem lk_loop {wr n : Nat} {cs : List Int} {x2 : AV} {P : List Pk} (hn : 1 ≤ n ∧ n ≤ 64) (hP : P.length ≤ 150) (hok : ∀ x ∈ P, PkOk x) (k : Nat) (hk : 1001 ≤ k) (hk2 : k ≤ 100000) : ∀ (f i : Nat) (s : Store) (M : List Nat) (w : WV) (ps : List PP) (sent : List OFV), PkI (lkPI n cs) s wr n x2 P i M w ps sent → i ≤ P.length → P.length - i < f → ∃ s', unisonlaw22_InstLocks.l2 (k + 11) f (.int .i64 (n : Int)) x2 (.ptr wr 0 4) (.int .i64 (i : Int)) s = some (.bool true, s') := by
  intro f
  induction f with
  | zero => intro i s M w ps sent _ _ hf; omega
  | succ f ih =>
    intro i s M w ps sent h hi hf
    have hs : unisonlaw22_InstLocks.l2 (k + 11) (f + 1) (.int .i64 (n : Int)) x2 (.ptr wr 0 4) (.int .i64 (i : Int)) s = unisonlaw22_InstLocks.p12 (k + 11) (unisonlaw22_InstLocks.l2 (k + 11) f) (.int .i64 (n : Int)) x2 (.ptr wr 0 4) (.int .i64 (i : Int)) s := rfl
    rw [hs]
    unfold unisonlaw22_InstLocks.p12
    rw [lenL h.p]
    simp only [bnd, guard_tt, guard_ff, guard_tf, guard_ft, pick_t, pick_f, if_t, if_f, add_i, sub_i, lss_i, leq_i, gtr_i, geq_i, eql_i, neq_i, min_i, max_i, conv_i, len_sl, len_nil, not_b, cells_agg, new_s, fld_p, nil_p]
    by_cases hin : (i : Int) < (P.length : Int)
    rotate_left
    · simp only [decide_eq_false hin, bnd, guard_tt, guard_ff, guard_tf, guard_ft, pick_t, pick_f, if_t, if_f, add_i, sub_i, lss_i, leq_i, gtr_i, geq_i, eql_i, neq_i, min_i, max_i, conv_i, len_sl, len_nil, not_b, cells_agg, new_s, fld_p, nil_p]
      unfold unisonlaw22_InstLocks.p9
      have hsl := h.sl
      have hinv := h.inv (by omega)
      have hlen := hinv.len
      have hsrc : ∀ g ∈ sent, g.1.src < n := by
        obtain ⟨V, E, _, _, _, hs⟩ := hinv.w
        exact fun g hg => (hs g.1 (List.mem_map.2 ⟨g, hg, rfl⟩)).src
      exact lk_out k hk hk2 hn (by omega) hsrc (fun r v m hm hv hc => winv_lock hinv.w hm hv hc) (k + 11) 0 s ⟨h.iw, h.len, h.g, h.iw.lt _ h.wrM⟩ (by omega) (by omega)
    simp only [decide_eq_true hin, bnd, guard_tt, guard_ff, guard_tf, guard_ft, pick_t, pick_f, if_t, if_f, add_i, sub_i, lss_i, leq_i, gtr_i, geq_i, eql_i, neq_i, min_i, max_i, conv_i, len_sl, len_nil, not_b, cells_agg, new_s, fld_p, nil_p]
    have hi' : i < P.length := by omega
    unfold unisonlaw22_InstLocks.p11
    obtain ⟨p, q1, q2⟩ := elemL pc_len h.p hi'
    obtain ⟨s1, s2, M2, w2, ps2, sent2, d1, d2, d3⟩ := pk_step (lkPI_step n cs) h (by omega) hok hi' k hk hk2
    have hw1 : IntKind.i64.wrap ((i : Int) + 1) = ((i + 1 : Nat) : Int) := by rw [w_i64 (by omega) (by omega)]; omega
    simp only [ld_all h.g (wv_len _ _), q1, q2, d1, d2, bnd]
    unfold unisonlaw22_InstLocks.p10
    simp only [add_i, hw1]
    exact ih (i + 1) s2 M2 w2 ps2 sent2 d3 (by omega) (by omega)
theorem law_locks {n : Int} {x1 x2 : AV} {cs : List Int} {P : List Pk} (h1 : IsSl s x1 .u8 cs) (hcs : ∀ c ∈ cs, 0 ≤ c ∧ c < 256) (hcl : cs.length ≤ maxLen) (h2 : IsL pcells 4 s x2 P) (hok : ∀ x ∈ P, PkOk x) : ∃ s', rn 10012 4 [.int .i64 n, x1, x2] s = some (.bool true, s') := by
  rw [show 10012 = 10011 + 1 from rfl, unisonlaw22_InstLocks.eq]
  unfold unisonlaw22_InstLocks.f unisonlaw22_InstLocks.p16 unisonlaw22_InstLocks.p15
  have aw : ∀ t, rn 10011 8 [] t = some (.bool true, t) := fun t => awake_rn 10010 t
  simp only [bnd, guard_tt, guard_ff, guard_tf, guard_ft, pick_t, pick_f, if_t, if_f, add_i, sub_i, lss_i, leq_i, gtr_i, geq_i, eql_i, neq_i, min_i, max_i, conv_i, len_sl, len_nil, not_b, cells_agg, new_s, fld_p, nil_p]
  by_cases c1 : n < 1
  · simp only [decide_eq_true c1, bnd, guard_tt, guard_ff, guard_tf, guard_ft, pick_t, pick_f, if_t, if_f, add_i, sub_i, lss_i, leq_i, gtr_i, geq_i, eql_i, neq_i, min_i, max_i, conv_i, len_sl, len_nil, not_b, cells_agg, new_s, fld_p, nil_p, guard_skip, aw]
    exact ⟨s, rfl⟩
  by_cases c2 : n > 5
  · simp only [decide_eq_false c1, decide_eq_true c2, bnd, guard_tt, guard_ff, guard_tf, guard_ft, pick_t, pick_f, if_t, if_f, add_i, sub_i, lss_i, leq_i, gtr_i, geq_i, eql_i, neq_i, min_i, max_i, conv_i, len_sl, len_nil, not_b, cells_agg, new_s, fld_p, nil_p, guard_skip, aw]
    exact ⟨s, rfl⟩
  have hl := fun {α : Type} (f : AV → Option α) => lenL h2 f
  by_cases c3 : (P.length : Int) > 150
  · simp only [decide_eq_false c1, decide_eq_false c2, bnd, guard_tt, guard_ff, guard_tf, guard_ft, pick_t, pick_f, if_t, if_f, add_i, sub_i, lss_i, leq_i, gtr_i, geq_i, eql_i, neq_i, min_i, max_i, conv_i, len_sl, len_nil, not_b, cells_agg, new_s, fld_p, nil_p, hl, decide_eq_true c3, aw]
    exact ⟨s, rfl⟩
  simp only [decide_eq_false c1, decide_eq_false c2, bnd, guard_tt, guard_ff, guard_tf, guard_ft, pick_t, pick_f, if_t, if_f, add_i, sub_i, lss_i, leq_i, gtr_i, geq_i, eql_i, neq_i, min_i, max_i, conv_i, len_sl, len_nil, not_b, cells_agg, new_s, fld_p, nil_p, hl, decide_eq_false c3]
  obtain ⟨m, rfl⟩ : ∃ m : Nat, n = (m : Int) := ⟨n.toNat, by omega⟩
  unfold unisonlaw22_InstLocks.p14
  obtain ⟨s1, w, ps, s3, M, a1, a2, a3⟩ := pk_start (I := lkPI m cs) (m := m) (by omega) h1 hcs hcl h2 (fun _ => new_pinv m cs) 10000 (by omega) (by omega)
  have hl4 : [AV.nilsl, AV.nilsl, AV.nilsl, AV.nilsl].length = 4 := rfl
  simp only [a1, bnd, new_s, hl4, a2]
  unfold unisonlaw22_InstLocks.p13
  exact lk_loop (by omega) (by omega) hok 10000 (by omega) (by omega) 10011 0 s3 M w ps [] a3 (by omega) (by omega)
end Go.Proofs.Ytmaidlndikcgkaa.Sim
