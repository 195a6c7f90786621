/- Layer 22: the law InstEnds. No condition. -/
import Derived.Test.YtmaidlndikcgkaaB22EndsH
namespace Go.Proofs.Ytmaidlndikcgkaa.Sim
set_option linter.unusedSimpArgs false
set_option linter.unusedVariables false
variable {s s' : Store} {M M' : List Nat} {w : WV} {ps : List PP} {sent : List OFV} {n wr : Nat} {cs : List Int}

theorem any_loop (k : Nat) {x2 : AV} (hn : n ≤ 64) (h : WI s wr n M w ps sent) (hm : ∀ p (h : p < ps.length), ps[p].2.mine = mineOf cs p) : ∀ (f i : Nat) (b : Bool), (b = true → ∃ q, q < n ∧ mineOf cs q ≠ []) → i ≤ n → n - i < f →
    ∃ b', F5.l8 k f (.int .i64 (n : Int)) x2 (.ptr wr 0 4) (.bool b) (.int .i64 (i : Int)) s = F5.p31 k (.int .i64 (n : Int)) x2 (.ptr wr 0 4) (.bool b') s ∧ (b' = true → ∃ q, q < n ∧ mineOf cs q ≠ []) := by
  intro f
  induction f with
  | zero => intro i b _ _ hf; omega
  | succ f ih =>
    intro i b hb hi hf
    have hs : F5.l8 k (f + 1) (.int .i64 (n : Int)) x2 (.ptr wr 0 4) (.bool b) (.int .i64 (i : Int)) s = F5.p34 k (F5.l8 k f) (.int .i64 (n : Int)) x2 (.ptr wr 0 4) (.bool b) (.int .i64 (i : Int)) s := rfl
    rw [hs]
    unfold F5.p34
    simp only [lss_i]
    have hlen := h.len
    subst hlen
    by_cases hin : (i : Int) < (ps.length : Int)
    rotate_left
    · simp only [decide_eq_false hin, if_f]
      exact ⟨b, rfl, hb⟩
    simp only [decide_eq_true hin, if_t]
    have hi' : i < ps.length := by omega
    unfold F5.p33
    have hw1 : IntKind.i64.wrap ((i : Int) + 1) = ((i + 1 : Nat) : Int) := by rw [w_i64 (by omega) (by omega)]; omega
    have next : ∀ b2 : Bool, (b2 = true → ∃ q, q < ps.length ∧ mineOf cs q ≠ []) → ∃ b', F5.p32 k (F5.l8 k f) (.int .i64 (ps.length : Int)) x2 (.ptr wr 0 4) (.bool b2) (.int .i64 (i : Int)) s = F5.p31 k (.int .i64 (ps.length : Int)) x2 (.ptr wr 0 4) (.bool b') s ∧ (b' = true → ∃ q, q < ps.length ∧ mineOf cs q ≠ []) := fun b2 h2 => by
      unfold F5.p32
      simp only [add_i, hw1]
      exact ih (i + 1) b2 h2 (by omega) (by omega)
    cases b
    · have l2 : ∀ {α : Type} (c : AV → Option α), aLoad1 (.ptr wr (0 + 2) 4) s c = c (.sl w.mr 0 ps.length 1 ps.length) := fun {α} c => h.ld rfl c
      have lM := fun {α : Type} (c : AV → Option α) => h.iw.ldM hi' c
      have hmi := fun {α : Type} (c : AV → Option α) => len_runs (h.iw.p i hi').mi.is c
      simp only [bnd, guard_tt, guard_ff, guard_tf, guard_ft, pick_t, pick_f, if_t, if_f, add_i, sub_i, lss_i, leq_i, gtr_i, geq_i, eql_i, neq_i, min_i, max_i, conv_i, len_sl, len_nil, not_b, cells_agg, new_s, fld_p, nil_p, l2, idx1 hi', lM, hmi]
      refine next _ fun q => ⟨i, hi', fun z => ?_⟩
      have := of_decide_eq_true q
      rw [hm i hi', z] at this
      simp at this
    · simp only [bnd, guard_tt, guard_ff, guard_tf, guard_ft, pick_t, pick_f, if_t, if_f, add_i, sub_i, lss_i, leq_i, gtr_i, geq_i, eql_i, neq_i, min_i, max_i, conv_i, len_sl, len_nil, not_b, cells_agg, new_s, fld_p, nil_p, guard_skip]
      exact next true hb
def enPI (n : Nat) (cs : List Int) : PI := fun i l o => i ≤ 60 → EInv n cs i l o
theorem enPI_step (n : Nat) (cs : List Int) (i : Nat) (l : List PM) (o : List OF) (l' : List PM) (o' : List OF) (h : enPI n cs i l o) (st : PStep l o l' o') : enPI n cs (i + 1) l' o' := fun hi => estep (h (by omega)) (by omega) st
theorem en_loop {x2 : AV} {P : List Pk} (hn : 1 ≤ n ∧ n ≤ 5) (hcs : ∀ c ∈ cs, 0 ≤ c ∧ c < 256) (hex : ∃ q, q < n ∧ mineOf cs q ≠ []) (hP : P.length ≤ 60) (hok : ∀ x ∈ P, PkOk x) (k : Nat) (hk : 1001 ≤ k) (hk2 : k ≤ 90000) : ∀ (f i : Nat) (s : Store) (M : List Nat) (w : WV) (ps : List PP) (sent : List OFV), PkI (enPI n cs) s wr n x2 P i M w ps sent → i ≤ P.length → P.length - i < f → ∃ s', F5.l7 (k + 11) f (.int .i64 (n : Int)) x2 (.ptr wr 0 4) (.int .i64 (i : Int)) s = some (.bool true, s') := by
  intro f
  induction f with
  | zero => intro i s M w ps sent _ _ hf; omega
  | succ f ih =>
    intro i s M w ps sent h hi hf
    have hs : F5.l7 (k + 11) (f + 1) (.int .i64 (n : Int)) x2 (.ptr wr 0 4) (.int .i64 (i : Int)) s = F5.p29 (k + 11) (F5.l7 (k + 11) f) (.int .i64 (n : Int)) x2 (.ptr wr 0 4) (.int .i64 (i : Int)) s := rfl
    rw [hs]
    unfold F5.p29
    rw [lenL h.p]
    simp only [bnd, guard_tt, guard_ff, guard_tf, guard_ft, pick_t, pick_f, if_t, if_f, add_i, sub_i, lss_i, leq_i, gtr_i, geq_i, eql_i, neq_i, min_i, max_i, conv_i, len_sl, len_nil, not_b, cells_agg, new_s, fld_p, nil_p]
    by_cases hin : (i : Int) < (P.length : Int)
    rotate_left
    · simp only [decide_eq_false hin, bnd, guard_tt, guard_ff, guard_tf, guard_ft, pick_t, pick_f, if_t, if_f, add_i, sub_i, lss_i, leq_i, gtr_i, geq_i, eql_i, neq_i, min_i, max_i, conv_i, len_sl, len_nil, not_b, cells_agg, new_s, fld_p, nil_p]
      have hsl := h.sl
      exact ends_tail k hk hk2 hn hcs (b := (i : Int)) (by omega) (by omega) hex ⟨h.iw, h.len, h.g, h.wrM, h.wrR⟩ (h.inv (by omega)) (by omega)
    simp only [decide_eq_true hin, bnd, guard_tt, guard_ff, guard_tf, guard_ft, pick_t, pick_f, if_t, if_f, add_i, sub_i, lss_i, leq_i, gtr_i, geq_i, eql_i, neq_i, min_i, max_i, conv_i, len_sl, len_nil, not_b, cells_agg, new_s, fld_p, nil_p]
    have hi' : i < P.length := by omega
    unfold F5.p28
    obtain ⟨p, q1, q2⟩ := elemL pc_len h.p hi'
    obtain ⟨s1, s2, M2, w2, ps2, sent2, d1, d2, d3⟩ := pk_step (enPI_step n cs) h (by omega) hok hi' k hk (by omega)
    have hw1 : IntKind.i64.wrap ((i : Int) + 1) = ((i + 1 : Nat) : Int) := by rw [w_i64 (by omega) (by omega)]; omega
    simp only [ld_all h.g (wv_len _ _), q1, q2, d1, d2, bnd]
    unfold F5.p27
    simp only [add_i, hw1]
    exact ih (i + 1) s2 M2 w2 ps2 sent2 d3 (by omega) (by omega)
theorem law_ends {n : Int} {x1 x2 : AV} {cs : List Int} {P : List Pk} (h1 : IsSl s x1 .u8 cs) (hcs : ∀ c ∈ cs, 0 ≤ c ∧ c < 256) (hcl : cs.length ≤ maxLen) (h2 : IsL pcells 4 s x2 P) (hok : ∀ x ∈ P, PkOk x) : ∃ s', rn 10012 5 [.int .i64 n, x1, x2] s = some (.bool true, s') := by
  rw [show 10012 = 10011 + 1 from rfl, F5.eq]
  unfold F5.f F5.p39 F5.p38
  have aw : ∀ t, rn 10011 8 [] t = some (.bool true, t) := fun t => awake_rn 10010 t
  simp only [bnd, guard_tt, guard_ff, guard_tf, guard_ft, pick_t, pick_f, if_t, if_f, add_i, sub_i, lss_i, leq_i, gtr_i, geq_i, eql_i, neq_i, min_i, max_i, conv_i, len_sl, len_nil, not_b, cells_agg, new_s, fld_p, nil_p]
  by_cases c1 : n < 1
  · simp only [decide_eq_true c1, bnd, guard_tt, guard_ff, guard_tf, guard_ft, pick_t, pick_f, if_t, if_f, add_i, sub_i, lss_i, leq_i, gtr_i, geq_i, eql_i, neq_i, min_i, max_i, conv_i, len_sl, len_nil, not_b, cells_agg, new_s, fld_p, nil_p, guard_skip, aw]
    exact ⟨s, rfl⟩
  by_cases c2 : n > 5
  · simp only [decide_eq_false c1, decide_eq_true c2, bnd, guard_tt, guard_ff, guard_tf, guard_ft, pick_t, pick_f, if_t, if_f, add_i, sub_i, lss_i, leq_i, gtr_i, geq_i, eql_i, neq_i, min_i, max_i, conv_i, len_sl, len_nil, not_b, cells_agg, new_s, fld_p, nil_p, guard_skip, aw]
    exact ⟨s, rfl⟩
  have hl := fun {α : Type} (f : AV → Option α) => lenL h2 f
  by_cases c3 : (P.length : Int) > 60
  · simp only [decide_eq_false c1, decide_eq_false c2, bnd, guard_tt, guard_ff, guard_tf, guard_ft, pick_t, pick_f, if_t, if_f, add_i, sub_i, lss_i, leq_i, gtr_i, geq_i, eql_i, neq_i, min_i, max_i, conv_i, len_sl, len_nil, not_b, cells_agg, new_s, fld_p, nil_p, hl, decide_eq_true c3, aw]
    exact ⟨s, rfl⟩
  simp only [decide_eq_false c1, decide_eq_false c2, bnd, guard_tt, guard_ff, guard_tf, guard_ft, pick_t, pick_f, if_t, if_f, add_i, sub_i, lss_i, leq_i, gtr_i, geq_i, eql_i, neq_i, min_i, max_i, conv_i, len_sl, len_nil, not_b, cells_agg, new_s, fld_p, nil_p, hl, decide_eq_false c3]
  obtain ⟨m, rfl⟩ : ∃ m : Nat, n = (m : Int) := ⟨n.toNat, by omega⟩
  unfold F5.p37
  obtain ⟨s1, w, ps, s3, M, a1, a2, a3⟩ := pk_start (I := enPI m cs) (m := m) (by omega) h1 hcs hcl h2 (fun _ => new_einv hcs (by omega)) 10000 (by omega) (by omega)
  have hl4 : [AV.nilsl, AV.nilsl, AV.nilsl, AV.nilsl].length = 4 := rfl
  simp only [a1, bnd, new_s, hl4, a2]
  unfold F5.p36 F5.p35
  have hei := a3.inv (by omega)
  obtain ⟨b, b1, b2⟩ := any_loop (cs := cs) (wr := s1.next) (x2 := x2) (n := m) (sent := []) 10011 (by omega) ⟨a3.iw, a3.len, a3.g, a3.wrM, a3.wrR⟩ (fun p hp => by
    have := hei.pinv.mine p (by rw [List.length_map]; exact hp)
    rw [List.getElem_map] at this
    exact this) 10011 0 false (fun q => by cases q) (by omega) (by omega)
  rw [show ((0 : Nat) : Int) = 0 from rfl] at b1
  rw [b1]
  unfold F5.p31
  cases b
  · simp only [bnd, guard_tt, guard_ff, guard_tf, guard_ft, pick_t, pick_f, if_t, if_f, add_i, sub_i, lss_i, leq_i, gtr_i, geq_i, eql_i, neq_i, min_i, max_i, conv_i, len_sl, len_nil, not_b, cells_agg, new_s, fld_p, nil_p, Bool.not_false, aw]
    exact ⟨s3, rfl⟩
  · simp only [bnd, guard_tt, guard_ff, guard_tf, guard_ft, pick_t, pick_f, if_t, if_f, add_i, sub_i, lss_i, leq_i, gtr_i, geq_i, eql_i, neq_i, min_i, max_i, conv_i, len_sl, len_nil, not_b, cells_agg, new_s, fld_p, nil_p, Bool.not_true]
    unfold F5.p30
    exact en_loop (by omega) hcs (b2 rfl) (by omega) hok 10000 (by omega) (by omega) 10011 0 s3 M w ps [] a3 (by omega) (by omega)
end Go.Proofs.Ytmaidlndikcgkaa.Sim
