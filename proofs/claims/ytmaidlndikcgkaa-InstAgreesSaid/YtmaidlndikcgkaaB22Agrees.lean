/- Layer 22: the law InstAgrees. No condition. -/
import Derived.Test.YtmaidlndikcgkaaB22Args
import Derived.Test.YtmaidlndikcgkaaFunAgrees
namespace Go.Proofs.Ytmaidlndikcgkaa.Sim
set_option linter.unusedSimpArgs false
set_option linter.unusedVariables false
variable {s s' : Store} {M M' : List Nat} {w : WV} {ps : List PP} {sent : List OFV}

/-- The law's own: its world's row, and the picks. -/
structure AgI (s : Store) (wr n : Nat) (cs : List Int) (x2 : AV) (P : List Pk) (i : Nat) (M : List Nat) (w : WV) (ps : List PP) (sent : List OFV) : Prop where
  iw : IsW s M w ps sent
  len : ps.length = n
  g : s.get wr = .cells (wvals n w) false
  wrM : wr ∈ M
  wrR : wr ∉ rowsW w ps
  inv : PInv n cs i (ps.map (·.2)) (sent.map (·.1))
  sl : sent.length ≤ 2 * i
  p : IsL pcells 4 s x2 P
  px : ∀ a b c d e, x2 = .sl a b c d e → a ∉ rowsW w ps ∧ a ≠ wr ∧ a < s.next
theorem IsL.frS {β : Type} {c : β → List AV} {es : Nat} {S : List Nat} {v : AV} {l : List β} (h : IsL c es s v l) (e : FrS S s s') (hx : ∀ i b c d f, v = .sl i b c d f → i ∉ S) : IsL c es s' v l := by
  rcases h with h | ⟨q, ro, h1, h2, h3⟩
  · exact .inl h
  · exact .inr ⟨q, ro, h1, Nat.lt_of_lt_of_le h2 e.next, by rw [e.get q h2 (hx _ _ _ _ _ h1)]; exact h3⟩
theorem ag_end {wr n i : Nat} {cs : List Int} {x2 : AV} {P : List Pk} (h : AgI s wr n cs x2 P i M w ps sent) (k : Nat) (hk : 1001 ≤ k) (hk2 : k ≤ 100000) : ∃ s', unisonlaw22_InstAgrees.p0 (k + 11) (.ptr wr 0 4) s = some (.bool true, s') := by
  obtain ⟨a1, a2⟩ := pinv_agree h.inv
  obtain ⟨s', b⟩ := agree_run h.iw (k + 8) (by omega) (by omega) a1 a2
  rw [h.len] at b
  have b' : rn (k + 11) 11 [.agg (wvals n w)] s = some (.bool true, s') := b
  have aw : ∀ t, rn (k + 11) 8 [] t = some (.bool true, t) := fun t => awake_rn (k + 10) t
  unfold unisonlaw22_InstAgrees.p0
  simp only [ld_all h.g (wv_len _ _), b', aw, bnd, guard_tt, guard_ff, guard_tf, guard_ft, pick_t, pick_f, if_t, if_f, add_i, sub_i, lss_i, leq_i, gtr_i, geq_i, eql_i, neq_i, min_i, max_i, conv_i, len_sl, len_nil, not_b, cells_agg, new_s, fld_p, nil_p]
  exact ⟨s', rfl⟩
theorem ag_loop {wr n : Nat} {cs : List Int} {x2 : AV} {P : List Pk} (hP : P.length ≤ 300) (hok : ∀ x ∈ P, PkOk x) (k : Nat) (hk : 1001 ≤ k) (hk2 : k ≤ 100000) : ∀ (f i : Nat) (s : Store) (M : List Nat) (w : WV) (ps : List PP) (sent : List OFV), AgI s wr n cs x2 P i M w ps sent → i ≤ P.length → P.length - i < f → ∃ s', unisonlaw22_InstAgrees.l0 (k + 11) f x2 (.ptr wr 0 4) (.int .i64 (i : Int)) s = some (.bool true, s') := by
  intro f
  induction f with
  | zero => intro i s M w ps sent _ _ hf; omega
  | succ f ih =>
    intro i s M w ps sent h hi hf
    have hs : unisonlaw22_InstAgrees.l0 (k + 11) (f + 1) x2 (.ptr wr 0 4) (.int .i64 (i : Int)) s = unisonlaw22_InstAgrees.p3 (k + 11) (unisonlaw22_InstAgrees.l0 (k + 11) f) x2 (.ptr wr 0 4) (.int .i64 (i : Int)) s := rfl
    rw [hs]
    unfold unisonlaw22_InstAgrees.p3
    rw [lenL h.p]
    simp only [bnd, guard_tt, guard_ff, guard_tf, guard_ft, pick_t, pick_f, if_t, if_f, add_i, sub_i, lss_i, leq_i, gtr_i, geq_i, eql_i, neq_i, min_i, max_i, conv_i, len_sl, len_nil, not_b, cells_agg, new_s, fld_p, nil_p]
    by_cases hin : (i : Int) < (P.length : Int)
    rotate_left
    · simp only [decide_eq_false hin, bnd, guard_tt, guard_ff, guard_tf, guard_ft, pick_t, pick_f, if_t, if_f, add_i, sub_i, lss_i, leq_i, gtr_i, geq_i, eql_i, neq_i, min_i, max_i, conv_i, len_sl, len_nil, not_b, cells_agg, new_s, fld_p, nil_p]
      exact ag_end h k hk hk2
    simp only [decide_eq_true hin, bnd, guard_tt, guard_ff, guard_tf, guard_ft, pick_t, pick_f, if_t, if_f, add_i, sub_i, lss_i, leq_i, gtr_i, geq_i, eql_i, neq_i, min_i, max_i, conv_i, len_sl, len_nil, not_b, cells_agg, new_s, fld_p, nil_p]
    have hi' : i < P.length := by omega
    unfold unisonlaw22_InstAgrees.p2
    obtain ⟨p, q1, q2⟩ := elemL pc_len h.p hi'
    obtain ⟨s1, M1, w1, ps1, sent1, d1, d2, d3, d4, d5⟩ := do_run h.iw P[i] (hok _ (List.getElem_mem hi')) (by have := h.sl; omega) k hk hk2
    rw [h.len] at d1
    have g1 : s1.get wr = .cells (wvals n w) false := (d2.fr.get _ (h.iw.lt _ h.wrM) h.wrR).trans h.g
    have st : ∀ {α : Type} (f : Store → Option α), aStore 4 (.ptr wr 0 4) (.agg (wvals n w1)) s1 f = f (s1.set wr (.cells (wvals n w1) false)) := fun f => st_all g1 (wv_len _ _) (wv_len _ _) f
    have hw1 : IntKind.i64.wrap ((i : Int) + 1) = ((i + 1 : Nat) : Int) := by rw [w_i64 (by omega) (by omega)]; omega
    simp only [ld_all h.g (wv_len _ _), q1, q2, d1, st, bnd]
    unfold unisonlaw22_InstAgrees.p1
    simp only [add_i, hw1]
    have e2 := Fr1.set wr s1 (.cells (wvals n w1) false)
    have hwl := h.iw.lt _ h.wrM
    have wr1 : wr ∉ rowsW w1 ps1 := fun z => by
      rcases d2.rows _ z with z | z
      · exact h.wrR z
      · omega
    have e2S := e2.frS (S := [wr]) (by simp)
    have hW2 := d2.is.frS e2S (fun y hy => by rw [List.mem_singleton.1 hy]; exact d2.m2 _ h.wrM) fun y hy z => wr1 (by rw [← List.mem_singleton.1 z]; exact hy)
    refine ih (i + 1) _ M1 w1 ps1 sent1 ⟨hW2, d4.trans h.len, by rw [get_set, if_pos rfl], d2.m2 _ h.wrM, wr1, ?_, by have := h.sl; omega, (h.p.frS d2.fr fun a b c d e q => (h.px a b c d e q).1).frS e2S fun a b c d e q => by simp only [List.mem_singleton]; exact (h.px a b c d e q).2.1, fun a b c d e q => ?_⟩ (by omega) (by omega)
    · have := pstep_pinv h.inv (by omega) d3
      exact this
    · obtain ⟨x1, x2, x3⟩ := h.px a b c d e q
      refine ⟨fun z => ?_, x2, Nat.lt_of_lt_of_le x3 (Nat.le_trans d2.fr.next e2.next)⟩
      rcases d2.rows _ z with z | z
      · exact x1 z
      · omega
theorem law_agrees {n : Int} {x1 x2 : AV} {cs : List Int} {P : List Pk} (hn : -9223372036854775808 ≤ n ∧ n < 9223372036854775808) (h1 : IsSl s x1 .u8 cs) (hcs : ∀ c ∈ cs, 0 ≤ c ∧ c < 256) (hcl : cs.length ≤ maxLen) (h2 : IsL pcells 4 s x2 P) (hok : ∀ x ∈ P, PkOk x) : ∃ s', rn 10012 3 [.int .i64 n, x1, x2] s = some (.bool true, s') := by
  rw [show 10012 = 10011 + 1 from rfl, unisonlaw22_InstAgrees.eq]
  unfold unisonlaw22_InstAgrees.f unisonlaw22_InstAgrees.p7 unisonlaw22_InstAgrees.p6
  have aw : ∀ t, rn 10011 8 [] t = some (.bool true, t) := fun t => awake_rn 10010 t
  simp only [bnd, guard_tt, guard_ff, guard_tf, guard_ft, pick_t, pick_f, if_t, if_f, add_i, sub_i, lss_i, leq_i, gtr_i, geq_i, eql_i, neq_i, min_i, max_i, conv_i, len_sl, len_nil, not_b, cells_agg, new_s, fld_p, nil_p]
  by_cases c1 : n < 1
  · simp only [decide_eq_true c1, bnd, guard_tt, guard_ff, guard_tf, guard_ft, pick_t, pick_f, if_t, if_f, add_i, sub_i, lss_i, leq_i, gtr_i, geq_i, eql_i, neq_i, min_i, max_i, conv_i, len_sl, len_nil, not_b, cells_agg, new_s, fld_p, nil_p, guard_skip, aw]
    exact ⟨s, rfl⟩
  by_cases c2 : n > 5
  · simp only [decide_eq_false c1, decide_eq_true c2, bnd, guard_tt, guard_ff, guard_tf, guard_ft, pick_t, pick_f, if_t, if_f, add_i, sub_i, lss_i, leq_i, gtr_i, geq_i, eql_i, neq_i, min_i, max_i, conv_i, len_sl, len_nil, not_b, cells_agg, new_s, fld_p, nil_p, guard_skip, aw]
    exact ⟨s, rfl⟩
  have hl := fun {α : Type} (f : AV → Option α) => lenL h2 f
  by_cases c3 : (P.length : Int) > 300
  · simp only [decide_eq_false c1, decide_eq_false c2, bnd, guard_tt, guard_ff, guard_tf, guard_ft, pick_t, pick_f, if_t, if_f, add_i, sub_i, lss_i, leq_i, gtr_i, geq_i, eql_i, neq_i, min_i, max_i, conv_i, len_sl, len_nil, not_b, cells_agg, new_s, fld_p, nil_p, hl, decide_eq_true c3, aw]
    exact ⟨s, rfl⟩
  simp only [decide_eq_false c1, decide_eq_false c2, bnd, guard_tt, guard_ff, guard_tf, guard_ft, pick_t, pick_f, if_t, if_f, add_i, sub_i, lss_i, leq_i, gtr_i, geq_i, eql_i, neq_i, min_i, max_i, conv_i, len_sl, len_nil, not_b, cells_agg, new_s, fld_p, nil_p, hl, decide_eq_false c3]
  obtain ⟨m, rfl⟩ : ∃ m : Nat, n = (m : Int) := ⟨n.toNat, by omega⟩
  unfold unisonlaw22_InstAgrees.p5
  obtain ⟨s1, w, ps, a1, a2, a3, a4, a5⟩ := ofw_run h1 (n := m) (by omega) hcs hcl 10002 (by omega) (by omega)
  have a1' : rn 10011 9 [.int .i64 (m : Int), x1] s = some (.agg (wvals m w), s1) := a1
  have e1 := Ext.push s1 (.cells [AV.nilsl, AV.nilsl, AV.nilsl, AV.nilsl] false)
  have g1 : (s1.push (.cells [AV.nilsl, AV.nilsl, AV.nilsl, AV.nilsl] false)).get s1.next = .cells [AV.nilsl, AV.nilsl, AV.nilsl, AV.nilsl] false := by rw [get_push, if_pos rfl]
  have hl4 : [AV.nilsl, AV.nilsl, AV.nilsl, AV.nilsl].length = 4 := rfl
  have h3 := a2.grow e1 (Nat.le_refl _) (Nat.lt_succ_self _)
  have hp2 := (h2.ext a4).ext e1
  have hlt : s1.next < (s1.push (.cells [AV.nilsl, AV.nilsl, AV.nilsl, AV.nilsl] false)).next := Nat.lt_succ_self _
  simp only [a1', bnd, new_s, hl4]
  generalize s1.push (.cells [AV.nilsl, AV.nilsl, AV.nilsl, AV.nilsl] false) = s2 at e1 g1 h3 hp2 hlt ⊢
  rw [st_all g1 hl4 (wv_len m w)]
  unfold unisonlaw22_InstAgrees.p4
  have hlen : ps.length = m := by
    have := congrArg List.length a3
    simpa using this
  have hno : s1.next ∉ rowsW w ps := fun z => by have := a2.lt _ z; omega
  have e2 := (Fr1.set s1.next s2 (.cells (wvals m w) false)).frS (S := [s1.next]) (by simp)
  have h4 := h3.frS e2 (fun y hy => by rw [List.mem_singleton.1 hy]; simp) fun y hy z => hno (by rw [← List.mem_singleton.1 z]; exact hy)
  have hlts : ∀ a b c d e, x2 = .sl a b c d e → a < s.next := fun a b c d e q => by
    rcases h2 with ⟨q1, _⟩ | ⟨id, ro, q1, q2, _⟩
    · rw [q1] at q; cases q
    · rw [q1] at q; injection q with q; omega
  refine ag_loop (cs := cs) (by omega) hok 10000 (by omega) (by omega) 10011 0 _ _ w ps [] ⟨h4, hlen, by rw [get_set, if_pos rfl], by simp, hno, ?_, by simp, hp2.frS e2 fun a b c d e q z => ?_, fun a b c d e q => ?_⟩ (by omega) (by omega)
  · rw [a3]
    exact new_pinv m cs
  · have := hlts a b c d e q
    rw [List.mem_singleton.1 z] at this
    have := a4.next
    omega
  · have := hlts a b c d e q
    have := a4.next
    refine ⟨fun z => ?_, by omega, ?_⟩
    · have := a5 a z; omega
    · show a < s2.next
      omega
end Go.Proofs.Ytmaidlndikcgkaa.Sim
