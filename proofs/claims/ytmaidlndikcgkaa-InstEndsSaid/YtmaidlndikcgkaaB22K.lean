/- The texts B22G, B22H, B22I, B22J, B22K, one behind the other. No condition. -/
import Derived.Test.YtmaidlndikcgkaaB22F
namespace Go.Proofs.Ytmaidlndikcgkaa.Sim
set_option linter.unusedSimpArgs false
set_option linter.unusedVariables false
variable {s s' : Store} {M : List Nat}

def auxs (m : XI) (p : Nat) : List (List Rn) := (List.range p).filterMap fun q => (ofX m q 1).map (·.aux)
def allV (m : XI) : List (List Rn) := m.vote :: auxs m m.n
def votedV (l : List (List Rn)) : List Rn := l.foldl (fun a v => if a = [] then v else a) []
def someV (l : List (List Rn)) : Nat := l.countP fun v => !decide (v = [])
def noneV (l : List (List Rn)) : Nat := l.countP fun v => decide (v = [])
def judgeX (m : XI) (held : List Int) : Nat × List Rn := (judgeN m.n (someV (allV m)) (noneV (allV m)) (heldB held (votedV (allV m))), votedV (allV m))
theorem auxs_len (m : XI) (p : Nat) : (auxs m p).length ≤ p := by
  unfold auxs
  exact Nat.le_trans (List.length_filterMap_le _ _) (by rw [List.length_range]; exact Nat.le_refl _)
/-- Slices of votes. -/
structure Vs (s : Store) (M : List Nat) (vs : List AV) (ls : List (List Rn)) : Prop where
  len : vs.length = ls.length
  each : ∀ i (h : i < vs.length) (h' : i < ls.length), IsRM s M vs[i] ls[i]
theorem Vs.ext {vs : List AV} {ls : List (List Rn)} (h : Vs s M vs ls) (e : Ext s s') : Vs s' M vs ls := ⟨h.len, fun i q q' => (h.each i q q').ext e⟩
theorem Vs.snoc {vs : List AV} {ls : List (List Rn)} (h : Vs s M vs ls) {w : AV} {l : List Rn} (hw : IsRM s M w l) : Vs s M (vs ++ [w]) (ls ++ [l]) := by
  refine ⟨by simp [h.len], fun i q q' => ?_⟩
  by_cases z : i < vs.length
  · have z' : i < ls.length := by rw [← h.len]; exact z
    rw [List.getElem_append_left z, List.getElem_append_left z']
    exact h.each i z z'
  · have hi : i = vs.length := by simp at q; omega
    subst hi
    have := h.len
    simp only [List.getElem_append_right (Nat.le_refl _), Nat.sub_self, List.getElem_cons_zero]
    have h2 : (ls ++ [l])[vs.length]'q' = l := by simp [this]
    rw [h2]
    exact hw
theorem of_run2 {t : Store} {v : XV} {m : XI} (h0 : IsX s M v m) (e : Ext s t) {p ph : Nat} (hp : p < m.n) (hph : ph < 2) (k : Nat) : ∃ pp, rn (k + 1) 59 [.ptr v.x 0 11, .int .i64 (p : Int), .int .u8 ((6 + ph : Nat) : Int)] t = some (pp, t) ∧ RelP s M pp (ofX m p ph) := by
  have h := h0.ext e
  rw [F59.eq]
  unfold F59.f F59.p4 F59.p3 F59.p2 F59.p1 F59.p0
  have ld10 := fun {α : Type} (c : AV → Option α) => x_fld h (j := 10) (w := .sl v.fr 0 m.n 2 (m.n * 2)) rfl c
  have ld5 := fun {α : Type} (c : AV → Option α) => x_fld h (j := 5) (w := .int .u64 m.round) rfl c
  have hsub : IntKind.u8.wrap (((6 + ph : Nat) : Int) - 6) = (ph : Int) := by rw [w_u8 (by omega) (by omega)]; omega
  have hix1 : ∀ {α : Type} (c : AV → Option α), aIndexSl 2 (.sl v.fr 0 m.n 2 (m.n * 2)) (.int .i64 (p : Int)) c = c (.ptr v.fr (0 + p * 2) (m.n * 2)) := fun c => by
    rw [index_sl (by omega) (by omega), Int.toNat_natCast]
  have hix2 : ∀ {α : Type} (c : AV → Option α), aIndexArr 2 1 (.ptr v.fr (0 + p * 2) (m.n * 2)) (.int .u8 (ph : Int)) c = c (.ptr v.fr (p * 2 + ph) (m.n * 2)) := fun c => by
    rw [idx_arr (by omega) (by omega), Int.toNat_natCast, Nat.mul_one, Nat.zero_add]
  obtain ⟨pp, oo, r1, r2, r3⟩ := h0.rel (p * 2 + ph) (by omega)
  have ldp := fun {α : Type} (c : AV → Option α) => fr_ld h r1 c
  have hat : frAt m p ph = oo := by unfold frAt; rw [r2]; rfl
  simp only [bnd, guard_tt, guard_ff, guard_tf, guard_ft, pick_t, pick_f, if_t, if_f, add_i, sub_i, lss_i, leq_i, gtr_i, geq_i, eql_i, neq_i, min_i, max_i, conv_i, len_sl, len_nil, not_b, cells_agg, new_s, fld_p, nil_p, ld10, hsub, hix1, hix2, ldp]
  unfold ofX
  rw [hat]
  rcases r3 with ⟨rfl, rfl⟩ | ⟨q, o, rfl, rfl, r4⟩
  · simp only [nilp_n, Bool.not_true, bnd, guard_tt, guard_ff, guard_tf, guard_ft, pick_t, pick_f, if_t, if_f, add_i, sub_i, lss_i, leq_i, gtr_i, geq_i, eql_i, neq_i, min_i, max_i, conv_i, len_sl, len_nil, not_b, cells_agg, new_s, fld_p, nil_p, guard_skip]
    exact ⟨_, rfl, .inl ⟨rfl, rfl⟩⟩
  · obtain ⟨cs7, ro7, ev7, av7, w1, w2, w3, _⟩ := r4.row
    have ldr : ∀ {α : Type} (c : AV → Option α), aLoad1 (.ptr q (0 + 10) 16) t c = c (.int .u64 o.round) := fun c => ld_fld ((e.get q r4.lt).trans w1) w2 w3 c
    simp only [nilp_p, Bool.not_false, bnd, guard_tt, guard_ff, guard_tf, guard_ft, pick_t, pick_f, if_t, if_f, add_i, sub_i, lss_i, leq_i, gtr_i, geq_i, eql_i, neq_i, min_i, max_i, conv_i, len_sl, len_nil, not_b, cells_agg, new_s, fld_p, nil_p, ldr, ld5]
    by_cases hr : o.round = m.round
    · have : (o.round == m.round) = true := by simpa using hr
      simp only [this, bnd, guard_tt, guard_ff, guard_tf, guard_ft, pick_t, pick_f, if_t, if_f, add_i, sub_i, lss_i, leq_i, gtr_i, geq_i, eql_i, neq_i, min_i, max_i, conv_i, len_sl, len_nil, not_b, cells_agg, new_s, fld_p, nil_p, if_pos hr]
      exact ⟨_, rfl, .inr ⟨q, o, rfl, rfl, r4⟩⟩
    · have : (o.round == m.round) = false := by simpa using hr
      simp only [this, bnd, guard_tt, guard_ff, guard_tf, guard_ft, pick_t, pick_f, if_t, if_f, add_i, sub_i, lss_i, leq_i, gtr_i, geq_i, eql_i, neq_i, min_i, max_i, conv_i, len_sl, len_nil, not_b, cells_agg, new_s, fld_p, nil_p, if_neg hr]
      exact ⟨_, rfl, .inl ⟨rfl, rfl⟩⟩

theorem IsSF.ld2 {t : Store} {q : Nat} {f : SF} (h : IsSF s M q f) (e : Ext s t) : ∃ ev av, (∀ {α : Type} (c : AV → Option α), aLoad1 (.ptr q (0 + 11) 16) t c = c ev) ∧ (∀ {α : Type} (c : AV → Option α), aLoad1 (.ptr q (0 + 12) 16) t c = c av) ∧ IsRM s M ev f.est ∧ IsRM s M av f.aux := by
  obtain ⟨cs, ro, ev, av, w1, w2, w3, w4, w5, w6, w7⟩ := h.row
  exact ⟨ev, av, fun c => ld_fld ((e.get q h.lt).trans w1) w2 w4 c, fun c => ld_fld ((e.get q h.lt).trans w1) w2 w5 c, w6, w7⟩
def c1 (v : AV) : List AV := [v]
theorem one_b {w : AV} (hw : w.one = true) {α : Type} (f : List AV → Option α) : aBuild [(0, 1, w)] [AV.nilsl] f = f [w] := by cases w <;> first | rfl | cases hw
theorem gather_loop {s0 : Store} {v : XV} {m : XI} (h0 : IsX s0 M v m) (hv : AV) (k : Nat) : ∀ (d p : Nat) (s : Store) (x6 : AV) (vs : List AV), p ≤ m.n → m.n - p < d → Ext s0 s → OwnL c1 1 s x6 vs s0.next → Vs s0 M vs (m.vote :: auxs m p) →
    ∃ s' x6' vs', F44.l1 (k + 1) d (.ptr v.x 0 11) hv x6 (.int .i64 (m.n : Int)) (.int .i64 (p : Int)) s = F44.p8 (k + 1) (.ptr v.x 0 11) hv x6' s' ∧ Ext s0 s' ∧ OwnL c1 1 s' x6' vs' s0.next ∧ Vs s0 M vs' (allV m)
  | 0, p, s, x6, vs, hp, hd, _, _, _ => by omega
  | d + 1, p, s, x6, vs, hp, hd, he, ho, hvs => by
    have hs' : F44.l1 (k + 1) (d + 1) = fun x0 x1 x6 x22 x23 s => F44.p12 (k + 1) (F44.l1 (k + 1) d) x0 x1 x6 x22 x23 s := rfl
    rw [hs']
    clear hs'
    simp only
    unfold F44.p12 F44.p11
    by_cases hlt : p < m.n
    rotate_left
    · simp only [bnd, guard_tt, guard_ff, guard_tf, guard_ft, pick_t, pick_f, if_t, if_f, add_i, sub_i, lss_i, leq_i, gtr_i, geq_i, eql_i, neq_i, min_i, max_i, conv_i, len_sl, len_nil, not_b, cells_agg, new_s, fld_p, nil_p, decide_eq_false (show ¬ (p : Int) < (m.n : Int) by omega)]
      have : p = m.n := by omega
      subst this
      exact ⟨s, x6, vs, rfl, he, ho, hvs⟩
    unfold F44.p10 F44.p9
    have h := h0.ext he
    have hn := h0.n1
    obtain ⟨pp, o1, o2⟩ := of_run2 h0 he hlt (ph := 1) (by decide) k
    have o1' : rn (k + 1) 59 [.ptr v.x 0 11, .int .i64 (p : Int), .int .u8 7] s = some (pp, s) := o1
    have hw : IntKind.i64.wrap ((p : Int) + 1) = ((p + 1 : Nat) : Int) := by rw [w_i64 (by omega) (by omega)]; omega
    have hax : auxs m (p + 1) = auxs m p ++ (match ofX m p 1 with | some f => [f.aux] | none => []) := by
      unfold auxs
      rw [List.range_succ, List.filterMap_append]
      cases hx : ofX m p 1 <;> simp [hx]
    simp only [bnd, guard_tt, guard_ff, guard_tf, guard_ft, pick_t, pick_f, if_t, if_f, add_i, sub_i, lss_i, leq_i, gtr_i, geq_i, eql_i, neq_i, min_i, max_i, conv_i, len_sl, len_nil, not_b, cells_agg, new_s, fld_p, nil_p, decide_eq_true (show (p : Int) < (m.n : Int) by omega), o1']
    rcases o2 with ⟨rfl, hof⟩ | ⟨q, f, rfl, hof, hq⟩
    · simp only [nilp_n, Bool.not_true, bnd, guard_tt, guard_ff, guard_tf, guard_ft, pick_t, pick_f, if_t, if_f, add_i, sub_i, lss_i, leq_i, gtr_i, geq_i, eql_i, neq_i, min_i, max_i, conv_i, len_sl, len_nil, not_b, cells_agg, new_s, fld_p, nil_p, hw]
      rw [hof] at hax
      simp only [List.append_nil] at hax
      exact gather_loop h0 hv k d (p + 1) s x6 vs (by omega) (by omega) he ho (by rw [hax]; exact hvs)
    · obtain ⟨ev, av, l11, l12, re, ra⟩ := hq.ld2 he
      have hal := auxs_len m p
      have hvl := hvs.len
      simp only [List.length_cons] at hvl
      obtain ⟨x6', s1, a1, a2, a3⟩ := app_ownL (c := c1) (es := 1) (bytes := 24) (fun _ => rfl) (by decide) (by decide) ho he.next av (by omega)
      have hb1 := fun {α : Type} (f : List AV → Option α) => one_b ra.one f
      have a1' : ∀ {α : Type} (f : AV → Store → Option α), aAppend 1 24 x6 (.sl s.next 0 1 1 1) (s.push (.cells [av] false)) f = f x6' s1 := fun f => a1 f
      simp only [nilp_p, Bool.not_false, bnd, guard_tt, guard_ff, guard_tf, guard_ft, pick_t, pick_f, if_t, if_f, add_i, sub_i, lss_i, leq_i, gtr_i, geq_i, eql_i, neq_i, min_i, max_i, conv_i, len_sl, len_nil, not_b, cells_agg, new_s, fld_p, nil_p, l12, hb1, a1', hw]
      rw [hof] at hax
      simp only at hax
      have E1 : Ext s0 s1 := ⟨Nat.le_trans he.next a3.next, fun l hl => (a3.get l hl).trans (he.get l hl)⟩
      exact gather_loop h0 hv k d (p + 1) s1 x6' (vs ++ [av]) (by omega) (by omega) E1 a2 (by
        rw [hax, ← List.cons_append]
        exact hvs.snoc ra)
theorem first_loop {s0 s : Store} {x6 hv : AV} {vs : List AV} {ls : List (List Rn)} (he : Ext s0 s) (ho : OwnL c1 1 s x6 vs s0.next) (hvs : Vs s0 M vs ls) (hl : vs.length ≤ 1000) (x0 : AV) (k : Nat) : ∀ (d i : Nat) (x9 : AV), i ≤ vs.length → vs.length - i < d → IsRM s0 M x9 (votedV (ls.take i)) →
    ∃ x9', F44.l0 k d x0 hv x6 x9 x6 (.int .i64 (vs.length : Nat)) (.int .i64 (i : Int)) s = F44.p2 k x0 hv x6 x9' s ∧ IsRM s0 M x9' (votedV ls)
  | 0, i, x9, hi, hd, _ => by omega
  | d + 1, i, x9, hi, hd, h9 => by
    have hs' : F44.l0 k (d + 1) = fun x0 x1 x6 x9 x39 x40 x41 s => F44.p6 k (F44.l0 k d) x0 x1 x6 x9 x39 x40 x41 s := rfl
    rw [hs']
    clear hs'
    simp only
    unfold F44.p6 F44.p5
    by_cases hlt : i < vs.length
    rotate_left
    · simp only [bnd, guard_tt, guard_ff, guard_tf, guard_ft, pick_t, pick_f, if_t, if_f, add_i, sub_i, lss_i, leq_i, gtr_i, geq_i, eql_i, neq_i, min_i, max_i, conv_i, len_sl, len_nil, not_b, cells_agg, new_s, fld_p, nil_p, decide_eq_false (show ¬ (i : Int) < ((vs.length : Nat) : Int) by omega)]
      rw [List.take_of_length_le (by rw [← hvs.len]; omega)] at h9
      exact ⟨x9, rfl, h9⟩
    unfold F44.p4 F44.p3
    have hll : i < ls.length := by rw [← hvs.len]; exact hlt
    obtain ⟨p, p1, p2⟩ := elemL (c := c1) (es := 1) (fun _ => rfl) ho.is hlt
    have ld1 : ∀ {α : Type} (c : AV → Option α), aLoad1 p s c = c vs[i] := fun c => by
      rcases ho with ⟨_, q⟩ | ⟨id, q1, q2, q3, q4⟩
      · rw [q] at hlt; simp at hlt
      · have hp : p = .ptr id (0 + i * 1) (vs.length * 1) := by
          have t1 := p1 (α := AV) .i64 some
          rw [q1, idxL hlt] at t1
          exact (Option.some.inj t1).symm
        rw [hp]
        have := fldL (c := c1) (es := 1) (j := 0) (v := vs[i]) (fun _ => rfl) q4 hlt rfl c
        exact this
    have hw : IntKind.i64.wrap ((i : Int) + 1) = ((i + 1 : Nat) : Int) := by rw [w_i64 (by omega) (by omega)]; omega
    have htk : votedV (ls.take (i + 1)) = if votedV (ls.take i) = [] then ls[i] else votedV (ls.take i) := by
      unfold votedV
      rw [List.take_succ_eq_append_getElem hll, List.foldl_append]
      rfl
    have hz : (((((votedV (ls.take i)).length : Nat)) : Int) == 0) = decide (votedV (ls.take i) = []) := by
      cases votedV (ls.take i) with
      | nil => rfl
      | cons a l => simp; omega
    simp only [bnd, guard_tt, guard_ff, guard_tf, guard_ft, pick_t, pick_f, if_t, if_f, add_i, sub_i, lss_i, leq_i, gtr_i, geq_i, eql_i, neq_i, min_i, max_i, conv_i, len_sl, len_nil, not_b, cells_agg, new_s, fld_p, nil_p, decide_eq_true (show (i : Int) < ((vs.length : Nat) : Int) by omega), p1, ld1, len_runs h9.is, hz]
    by_cases hv0 : votedV (ls.take i) = []
    · simp only [decide_eq_true hv0, bnd, guard_tt, guard_ff, guard_tf, guard_ft, pick_t, pick_f, if_t, if_f, add_i, sub_i, lss_i, leq_i, gtr_i, geq_i, eql_i, neq_i, min_i, max_i, conv_i, len_sl, len_nil, not_b, cells_agg, new_s, fld_p, nil_p, hw]
      exact first_loop he ho hvs hl x0 k d (i + 1) vs[i] (by omega) (by omega) (by rw [htk, if_pos hv0]; exact hvs.each i hlt hll)
    · simp only [decide_eq_false hv0, bnd, guard_tt, guard_ff, guard_tf, guard_ft, pick_t, pick_f, if_t, if_f, add_i, sub_i, lss_i, leq_i, gtr_i, geq_i, eql_i, neq_i, min_i, max_i, conv_i, len_sl, len_nil, not_b, cells_agg, new_s, fld_p, nil_p, hw]
      exact first_loop he ho hvs hl x0 k d (i + 1) x9 (by omega) (by omega) (by rw [htk, if_neg hv0]; exact h9)
theorem count_loop22 {s0 s : Store} {x6 : AV} {vs : List AV} {ls : List (List Rn)} (ho : OwnL c1 1 s x6 vs s0.next) (hvs : Vs s0 M vs ls) (hl : vs.length ≤ 1000) (k : Nat) : ∀ (d i : Nat), i ≤ vs.length → vs.length - i < d →
    F61.l0 k d (.int .i64 (someV (ls.take i) : Nat)) (.int .i64 (noneV (ls.take i) : Nat)) x6 (.int .i64 (vs.length : Nat)) (.int .i64 (i : Int)) s = some (.tuple [.int .i64 (someV ls : Nat), .int .i64 (noneV ls : Nat)], s)
  | 0, i, hi, hd => by omega
  | d + 1, i, hi, hd => by
    have hs' : F61.l0 k (d + 1) = fun x4 x5 x8 x9 x10 s => F61.p4 k (F61.l0 k d) x4 x5 x8 x9 x10 s := rfl
    rw [hs']
    clear hs'
    simp only
    unfold F61.p4 F61.p3
    by_cases hlt : i < vs.length
    rotate_left
    · unfold F61.p0
      simp only [bnd, guard_tt, guard_ff, guard_tf, guard_ft, pick_t, pick_f, if_t, if_f, add_i, sub_i, lss_i, leq_i, gtr_i, geq_i, eql_i, neq_i, min_i, max_i, conv_i, len_sl, len_nil, not_b, cells_agg, new_s, fld_p, nil_p, decide_eq_false (show ¬ (i : Int) < ((vs.length : Nat) : Int) by omega)]
      rw [List.take_of_length_le (by rw [← hvs.len]; omega)]
    unfold F61.p2 F61.p1
    have hll : i < ls.length := by rw [← hvs.len]; exact hlt
    obtain ⟨p, p1, p2⟩ := elemL (c := c1) (es := 1) (fun _ => rfl) ho.is hlt
    have ld1 : ∀ {α : Type} (c : AV → Option α), aLoad1 p s c = c vs[i] := fun c => by
      rcases ho with ⟨_, q⟩ | ⟨id, q1, q2, q3, q4⟩
      · rw [q] at hlt; simp at hlt
      · have hp : p = .ptr id (0 + i * 1) (vs.length * 1) := by
          have t1 := p1 (α := AV) .i64 some
          rw [q1, idxL hlt] at t1
          exact (Option.some.inj t1).symm
        rw [hp]
        have := fldL (c := c1) (es := 1) (j := 0) (v := vs[i]) (fun _ => rfl) q4 hlt rfl c
        exact this
    have he := (hvs.each i hlt hll).is
    have hw : IntKind.i64.wrap ((i : Int) + 1) = ((i + 1 : Nat) : Int) := by rw [w_i64 (by omega) (by omega)]; omega
    have h1 : someV (ls.take (i + 1)) = someV (ls.take i) + if ls[i] = [] then 0 else 1 := by
      unfold someV
      rw [List.take_succ_eq_append_getElem hll, List.countP_append]
      by_cases z : ls[i] = [] <;> simp [z]
    have h2 : noneV (ls.take (i + 1)) = noneV (ls.take i) + if ls[i] = [] then 1 else 0 := by
      unfold noneV
      rw [List.take_succ_eq_append_getElem hll, List.countP_append]
      by_cases z : ls[i] = [] <;> simp [z]
    have hb1 : someV (ls.take i) ≤ i := by unfold someV; exact Nat.le_trans List.countP_le_length (by rw [List.length_take]; omega)
    have hb2 : noneV (ls.take i) ≤ i := by unfold noneV; exact Nat.le_trans List.countP_le_length (by rw [List.length_take]; omega)
    have ws : IntKind.i64.wrap ((someV (ls.take i) : Nat) + 1 : Int) = ((someV (ls.take i) + 1 : Nat) : Int) := by rw [w_i64 (by omega) (by omega)]; omega
    have wn : IntKind.i64.wrap ((noneV (ls.take i) : Nat) + 1 : Int) = ((noneV (ls.take i) + 1 : Nat) : Int) := by rw [w_i64 (by omega) (by omega)]; omega
    simp only [bnd, guard_tt, guard_ff, guard_tf, guard_ft, pick_t, pick_f, if_t, if_f, add_i, sub_i, lss_i, leq_i, gtr_i, geq_i, eql_i, neq_i, min_i, max_i, conv_i, len_sl, len_nil, not_b, cells_agg, new_s, fld_p, nil_p, decide_eq_true (show (i : Int) < ((vs.length : Nat) : Int) by omega), p1, ld1, len_runs he]
    have ih := count_loop22 ho hvs hl k d (i + 1) (by omega) (by omega)
    by_cases z : ls[i] = []
    · have hz : decide ((((ls[i]).length : Nat) : Int) > 0) = false := by rw [z]; rfl
      simp only [hz, bnd, guard_tt, guard_ff, guard_tf, guard_ft, pick_t, pick_f, if_t, if_f, add_i, sub_i, lss_i, leq_i, gtr_i, geq_i, eql_i, neq_i, min_i, max_i, conv_i, len_sl, len_nil, not_b, cells_agg, new_s, fld_p, nil_p, wn, hw]
      rw [h1, h2, if_pos z, if_pos z, Nat.add_zero] at ih
      exact ih
    · have hz : decide ((((ls[i]).length : Nat) : Int) > 0) = true := decide_eq_true (by have := List.length_pos_iff.2 z; omega)
      simp only [hz, bnd, guard_tt, guard_ff, guard_tf, guard_ft, pick_t, pick_f, if_t, if_f, add_i, sub_i, lss_i, leq_i, gtr_i, geq_i, eql_i, neq_i, min_i, max_i, conv_i, len_sl, len_nil, not_b, cells_agg, new_s, fld_p, nil_p, ws, hw]
      rw [h1, h2, if_neg z, if_neg z, Nat.add_zero] at ih
      exact ih
theorem judge_run {v : XV} {m : XI} {hv mv : AV} {held : List Int} {mine : List Rn} (h : IsX s M v m) (hm : HM s v hv mv held mine) (k : Nat) (hk : 1001 ≤ k) (hk2 : k ≤ 100000) :
    ∃ s' w, rn (k + 8) 44 [.ptr v.x 0 11, hv] s = some (.tuple [.int .u8 (((judgeX m held).1 : Nat) : Int), w], s') ∧ IsRM s M w (judgeX m held).2 ∧ Ext s s' := by
  rw [show k + 8 = (k + 7) + 1 from rfl, F44.eq]
  unfold F44.f F44.p15 F44.p14
  have ld7 := fun {α : Type} (c : AV → Option α) => x_fld h (j := 7) (w := v.vv) rfl c
  have hb := fun {α : Type} (f : List AV → Option α) => one_b h.vote.one f
  simp only [bnd, guard_tt, guard_ff, guard_tf, guard_ft, pick_t, pick_f, if_t, if_f, add_i, sub_i, lss_i, leq_i, gtr_i, geq_i, eql_i, neq_i, min_i, max_i, conv_i, len_sl, len_nil, not_b, cells_agg, new_s, fld_p, nil_p, ld7, hb]
  have e1 := Ext.push s (.cells [v.vv] false)
  have ho1 : OwnL c1 1 (s.push (.cells [v.vv] false)) (.sl s.next 0 1 1 1) [v.vv] s.next := .inr ⟨s.next, rfl, Nat.le_refl _, Nat.lt_succ_self _, by rw [get_push, if_pos rfl]; rfl⟩
  generalize s.push (.cells [v.vv] false) = s1 at e1 ho1 ⊢
  unfold F44.p13
  have ld0 := fun {α : Type} (c : AV → Option α) => x_fld (h.ext e1) (j := 0) (w := .int .i64 (m.n : Int)) rfl c
  have hn := h.n1
  obtain ⟨s2, x6, vs, g1, g2, g3, g4⟩ := gather_loop h hv (k + 6) (k + 7) 0 s1 _ [v.vv] (Nat.zero_le _) (by omega) e1 ho1 ⟨by simp [auxs], fun i q q' => by
    have hi : i = 0 := by simpa using q
    subst hi
    exact h.vote⟩
  have g1' : F44.l1 (k + 7) (k + 7) (.ptr v.x 0 11) hv (.sl s.next 0 1 1 1) (.int .i64 (m.n : Int)) (.int .i64 0) s1 = _ := g1
  simp only [bnd, guard_tt, guard_ff, guard_tf, guard_ft, pick_t, pick_f, if_t, if_f, add_i, sub_i, lss_i, leq_i, gtr_i, geq_i, eql_i, neq_i, min_i, max_i, conv_i, len_sl, len_nil, not_b, cells_agg, new_s, fld_p, nil_p, ld0, g1']
  unfold F44.p8 F44.p7
  have hvl : vs.length ≤ 65 := by
    rw [g4.len]
    have := auxs_len m m.n
    simp only [allV, List.length_cons]
    omega
  rw [lenL g3.is]
  obtain ⟨x9, f1, f2⟩ := first_loop (hv := hv) g2 g3 g4 (by omega) (.ptr v.x 0 11) (k + 7) (k + 7) 0 .nilsl (Nat.zero_le _) (by omega) (IsRM.nil _ _)
  have f1' : F44.l0 (k + 7) (k + 7) (.ptr v.x 0 11) hv x6 .nilsl x6 (.int .i64 (vs.length : Nat)) (.int .i64 0) s2 = _ := f1
  rw [f1']
  unfold F44.p2
  have hct : rn (k + 7) 61 [x6] s2 = some (.tuple [.int .i64 (someV (allV m) : Nat), .int .i64 (noneV (allV m) : Nat)], s2) := by
    rw [show k + 7 = (k + 6) + 1 from rfl, F61.eq]
    unfold F61.f F61.p7 F61.p6 F61.p5
    rw [lenL g3.is]
    exact count_loop22 g3 g4 (by omega) (k + 6) (k + 6) 0 (Nat.zero_le _) (by omega)
  have he0 : ∀ {α : Type} (x y : AV) (c : AV → Option α), aExtract 0 (.tuple [x, y]) c = c x := fun x y c => rfl
  have he1 : ∀ {α : Type} (x y : AV) (c : AV → Option α), aExtract 1 (.tuple [x, y]) c = c y := fun x y c => rfl
  simp only [hct, bnd, he0, he1]
  unfold F44.p1 F44.p0
  have hm2 := hm.act (g2.frS _)
  obtain ⟨s3, b1, b2⟩ := held_run hm2.h (f2.ext g2) hm.hl (k + 2) (by omega) (by omega)
  have b1' : rn (k + 7) 53 [hv, x9] s2 = _ := b1
  have l0 : ∀ {t : Store}, Ext s t → ∀ {α : Type} (c : AV → Option α), aLoad1 (.ptr v.x (0 + 0) 11) t c = c (.int .i64 (m.n : Int)) := fun {t} e {α} c => x_fld (h.ext e) (j := 0) rfl c
  have e3 := g2.trans b2
  have hcs : someV (allV m) ≤ 1000 ∧ noneV (allV m) ≤ 1000 := by
    have hl := auxs_len m m.n
    have h1 : someV (allV m) ≤ (allV m).length := List.countP_le_length
    have h2 : noneV (allV m) ≤ (allV m).length := List.countP_le_length
    simp only [allV, List.length_cons] at h1 h2
    unfold allV
    omega
  have hj := judgeR_run hn (a := someV (allV m)) (b := noneV (allV m)) (by omega) (by omega) (heldB held (votedV (allV m))) (k + 4) s3
  have hj' : rn (k + 7) 62 [.int .i64 (m.n : Int), .int .i64 (someV (allV m) : Nat), .int .i64 (noneV (allV m) : Nat), .bool (heldB held (votedV (allV m)))] s3 = _ := hj
  simp only [bnd, guard_tt, guard_ff, guard_tf, guard_ft, pick_t, pick_f, if_t, if_f, add_i, sub_i, lss_i, leq_i, gtr_i, geq_i, eql_i, neq_i, min_i, max_i, conv_i, len_sl, len_nil, not_b, cells_agg, new_s, fld_p, nil_p, l0 g2, b1', l0 e3, aSame_self, hj']
  exact ⟨s3, x9, rfl, f2, e3⟩
end Go.Proofs.Ytmaidlndikcgkaa.Sim
namespace Go.Proofs.Ytmaidlndikcgkaa.Sim
set_option linter.unusedSimpArgs false
set_option linter.unusedVariables false
variable {s s' : Store} {M : List Nat}

def endX (m : XI) (held : List Int) (mine : List Rn) (changed : Bool) : XI × Bool :=
  if (judgeX m held).1 = 4 then ({ m with decided := (judgeX m held).2 }, true)
  else if (judgeX m held).1 = 3 then (beginX { m with est := (judgeX m held).2 } (IntKind.u64.wrap (m.round + 1)) held mine, true)
  else if (judgeX m held).1 = 2 then (beginX m (IntKind.u64.wrap (m.round + 1)) held mine, true)
  else (m, changed)
def stepX (m : XI) (held : List Int) (mine : List Rn) (sus : List Int) : XI × Bool :=
  if m.decided ≠ [] then (m, false)
  else if (votesX (jumpX m held mine).1 held sus).1.cast = false then ((votesX (jumpX m held mine).1 held sus).1, (votesX (jumpX m held mine).1 held sus).2 || (jumpX m held mine).2)
  else endX (votesX (jumpX m held mine).1 held sus).1 held mine ((votesX (jumpX m held mine).1 held sus).2 || (jumpX m held mine).2)
theorem votedV_ne {l : List (List Rn)} (h : 0 < someV l) : votedV l ≠ [] := by
  have keep : ∀ (l : List (List Rn)) (a : List Rn), a ≠ [] → l.foldl (fun a v => if a = [] then v else a) a = a := by
    intro l
    induction l with
    | nil => intro a _; rfl
    | cons v l ih => intro a ha; rw [List.foldl_cons, if_neg ha]; exact ih a ha
  have key : ∀ (l : List (List Rn)) (a : List Rn), a = [] → 0 < someV l → l.foldl (fun a v => if a = [] then v else a) a ≠ [] := by
    intro l
    induction l with
    | nil => intro a _ h; simp [someV] at h
    | cons v l ih =>
      intro a ha h
      rw [List.foldl_cons, if_pos ha]
      by_cases hv : v = []
      · refine ih v hv ?_
        simp only [someV, List.countP_cons, hv] at h
        simpa [someV] using h
      · rw [keep l v hv]; exact hv
  exact key l [] rfl h
theorem judge4 {m : XI} {held : List Int} (h : (judgeX m held).1 = 4) : (judgeX m held).2 ≠ [] := by
  refine votedV_ne ?_
  have h2 : judgeN m.n (someV (allV m)) (noneV (allV m)) (heldB held (votedV (allV m))) = 4 := h
  unfold judgeN at h2
  split at h2
  · cases h2
  split at h2
  · omega
  split at h2
  · cases h2
  split at h2
  · cases h2
  split at h2
  · cases h2
  split at h2 <;> cases h2
theorem ActQ.trans {v v' : XV} {m1 m2 : XI} {s2 : Store} (h1 : FrS [v.x, v.fr] s s') (hx : v'.x = v.x) (hf : v'.fr = v.fr) (h2 : ActQ s' M v' m2 s2) : ActQ s M v m2 s2 := by
  obtain ⟨v2, w1, w2, w3⟩ := h2.ex
  exact ⟨⟨v2, w1, w2.trans hx, w3.trans hf⟩, h1.trans (by have := h2.fr; rw [hx, hf] at this; exact this) fun l hl => .inl hl⟩
theorem step_run {v : XV} {m : XI} {hv mv sv : AV} {held sus : List Int} {mine : List Rn} (h : IsX s M v m) (hM : ∀ y ∈ M, y < s.next) (hm : HM s v hv mv held mine) (hsu : IsSl s sv .i64 sus) (hsx : ∀ i b c d e, sv = .sl i b c d e → i ∉ [v.x, v.fr]) (hsl : sus.length ≤ 1000) (k : Nat) (hk : 1001 ≤ k) (hk2 : k ≤ 100000) :
    ∃ s', rn (k + 9) 23 [.ptr v.x 0 11, hv, mv, sv] s = some (.bool (stepX m held mine sus).2, s') ∧ ActQ s M v (stepX m held mine sus).1 s' := by
  rw [show k + 9 = (k + 8) + 1 from rfl, F23.eq]
  unfold F23.f F23.p12 F23.p11
  have ld9 := fun {α : Type} (c : AV → Option α) => x_fld h (j := 9) (w := v.dv) rfl c
  unfold stepX
  by_cases hd : m.decided = []
  rotate_left
  · have hq : ∀ {α : Type} (c : Bool → Option α), aEq .sl v.dv .nilsl c = c false := fun c => by
      rcases h.dec.is with ⟨_, q⟩ | ⟨id, ro, q, _⟩
      · exact absurd q hd
      · rw [q]; rfl
    simp only [nilp_p, bnd, guard_tt, guard_ff, guard_tf, guard_ft, pick_t, pick_f, if_t, if_f, add_i, sub_i, lss_i, leq_i, gtr_i, geq_i, eql_i, neq_i, min_i, max_i, conv_i, len_sl, len_nil, not_b, cells_agg, new_s, fld_p, nil_p, ld9, hq, Bool.not_false]
    rw [if_pos hd]
    exact ⟨s, rfl, ⟨v, h, rfl, rfl⟩, FrS.refl _ _⟩
  have hdv := h.decn hd
  have hq : ∀ {α : Type} (c : Bool → Option α), aEq .sl v.dv .nilsl c = c true := fun c => by rw [hdv]; rfl
  rw [if_neg (fun q => q hd)]
  obtain ⟨s1, j1, j2⟩ := jump_run h hM hm k hk hk2
  obtain ⟨v1, x1, y1, z1⟩ := j2.ex
  simp only [nilp_p, bnd, guard_tt, guard_ff, guard_tf, guard_ft, pick_t, pick_f, if_t, if_f, add_i, sub_i, lss_i, leq_i, gtr_i, geq_i, eql_i, neq_i, min_i, max_i, conv_i, len_sl, len_nil, not_b, cells_agg, new_s, fld_p, nil_p, ld9, hq, Bool.not_true]
  unfold F23.p10
  simp only [j1, bnd]
  unfold F23.p9
  generalize hmj : (jumpX m held mine).1 = mj at x1
  generalize (jumpX m held mine).2 = bj
  have hm1 := (hm.act j2.fr).at y1 z1
  have hM1 : ∀ y ∈ M, y < s1.next := fun y hy => Nat.lt_of_lt_of_le (hM y hy) j2.fr.next
  obtain ⟨s2, w1, w2⟩ := votes_run x1 hm1 (hsu.frS j2.fr hsx) hsl k hk hk2
  rw [y1] at w1
  obtain ⟨v2, x2, y2, z2⟩ := w2.ex
  have A2 : ActQ s M v (votesX mj held sus).1 s2 := ActQ.trans (m1 := mj) j2.fr y1 z1 w2
  have hx2 : v2.x = v.x := y2.trans y1
  have hf2 : v2.fr = v.fr := z2.trans z1
  generalize (votesX mj held sus).1 = mv2 at x2 w2 A2
  generalize (votesX mj held sus).2 = bv at w1
  simp only [w1, bnd]
  have hpick : ∃ r : Bool, r = (bv || bj) ∧ ((aGuard (.bool bv) false (some (.bool bj, s2)) (some (.tuple [], s2))).bind fun g2 => aPick (.bool bv) (.bool true) g2.1 fun v3 => F23.p8 (k + 8) (.ptr v.x 0 11) hv mv v3 g2.2) = F23.p8 (k + 8) (.ptr v.x 0 11) hv mv (.bool r) s2 := by
    refine ⟨_, rfl, ?_⟩
    cases bv
    · simp only [bnd, guard_tt, guard_ff, guard_tf, guard_ft, pick_t, pick_f, if_t, if_f, add_i, sub_i, lss_i, leq_i, gtr_i, geq_i, eql_i, neq_i, min_i, max_i, conv_i, len_sl, len_nil, not_b, cells_agg, new_s, fld_p, nil_p, Bool.false_or]
    · simp only [bnd, guard_tt, guard_ff, guard_tf, guard_ft, pick_t, pick_f, if_t, if_f, add_i, sub_i, lss_i, leq_i, gtr_i, geq_i, eql_i, neq_i, min_i, max_i, conv_i, len_sl, len_nil, not_b, cells_agg, new_s, fld_p, nil_p, Bool.true_or]
  obtain ⟨r, hr, hp⟩ := hpick
  rw [hp, ← hr]
  unfold F23.p8
  have ld8 := fun {α : Type} (c : AV → Option α) => x_fld x2 (j := 8) (w := .bool mv2.cast) rfl c
  rw [hx2] at ld8
  simp only [bnd, guard_tt, guard_ff, guard_tf, guard_ft, pick_t, pick_f, if_t, if_f, add_i, sub_i, lss_i, leq_i, gtr_i, geq_i, eql_i, neq_i, min_i, max_i, conv_i, len_sl, len_nil, not_b, cells_agg, new_s, fld_p, nil_p, ld8]
  cases hcast : mv2.cast
  · simp only [bnd, guard_tt, guard_ff, guard_tf, guard_ft, pick_t, pick_f, if_t, if_f, add_i, sub_i, lss_i, leq_i, gtr_i, geq_i, eql_i, neq_i, min_i, max_i, conv_i, len_sl, len_nil, not_b, cells_agg, new_s, fld_p, nil_p, Bool.not_false, if_true]
    exact ⟨s2, rfl, A2⟩
  simp only [bnd, guard_tt, guard_ff, guard_tf, guard_ft, pick_t, pick_f, if_t, if_f, add_i, sub_i, lss_i, leq_i, gtr_i, geq_i, eql_i, neq_i, min_i, max_i, conv_i, len_sl, len_nil, not_b, cells_agg, new_s, fld_p, nil_p, Bool.not_true, Bool.true_eq_false, if_false]
  unfold F23.p7
  have hm2 := (hm.act A2.fr).at hx2 hf2
  obtain ⟨s3, wv, q1, q2, q3⟩ := judge_run x2 hm2 k hk hk2
  rw [hx2] at q1
  have he0 : ∀ {α : Type} (x y : AV) (c : AV → Option α), aExtract 0 (.tuple [x, y]) c = c x := fun x y c => rfl
  have he1 : ∀ {α : Type} (x y : AV) (c : AV → Option α), aExtract 1 (.tuple [x, y]) c = c y := fun x y c => rfl
  simp only [q1, bnd, he0, he1]
  unfold F23.p6 F23.p5
  have x3 := x2.ext q3
  have F3 : FrS [v.x, v.fr] s s3 := A2.fr.trans (q3.frS _) fun l hl => .inl hl
  have q2' := q2.ext q3
  have hM3 : ∀ y ∈ M, y < s3.next := fun y hy => Nat.lt_of_lt_of_le (hM y hy) F3.next
  unfold endX
  have hwr : 0 ≤ IntKind.u64.wrap (mv2.round + 1) ∧ IntKind.u64.wrap (mv2.round + 1) < 18446744073709551616 := by
    simp [IntKind.wrap, IntKind.bits, IntKind.signed]
    omega
  have beg : ∀ (t : Store) (v' : XV) (m' : XI), IsX t M v' m' → v'.x = v.x → v'.fr = v.fr → FrS [v.x, v.fr] s t → m'.round = mv2.round → ∃ s', F23.p2 (k + 8) (.ptr v.x 0 11) hv mv t = some (.bool true, s') ∧ ActQ s M v (beginX m' (IntKind.u64.wrap (mv2.round + 1)) held mine) s' := by
    intro t v' m' ht hx hf e hrd
    unfold F23.p2 F23.p0
    have ld5 := fun {α : Type} (c : AV → Option α) => x_fld ht (j := 5) (w := .int .u64 m'.round) rfl c
    rw [hx, hrd] at ld5
    obtain ⟨t2, b1, b2⟩ := beginX_run (hv := hv) (mv := mv) (held := held) (mine := mine) (r := IntKind.u64.wrap (mv2.round + 1)) ht (fun y hy => Nat.lt_of_lt_of_le (hM y hy) e.next) ((hm.act e).at hx hf) hwr (k + 1) (by omega) (by omega)
    rw [hx] at b1
    have b1' : rn (k + 8) 34 [.ptr v.x 0 11, .int .u64 (IntKind.u64.wrap (mv2.round + 1)), hv, mv] t = _ := b1
    simp only [bnd, guard_tt, guard_ff, guard_tf, guard_ft, pick_t, pick_f, if_t, if_f, add_i, sub_i, lss_i, leq_i, gtr_i, geq_i, eql_i, neq_i, min_i, max_i, conv_i, len_sl, len_nil, not_b, cells_agg, new_s, fld_p, nil_p, ld5, b1']
    exact ⟨t2, rfl, ActQ.trans (m1 := m') e hx hf b2⟩
  by_cases h4 : (judgeX mv2 held).1 = 4
  · have hz : (((((judgeX mv2 held).1 : Nat)) : Int) == 4) = true := by rw [h4]; rfl
    simp only [bnd, guard_tt, guard_ff, guard_tf, guard_ft, pick_t, pick_f, if_t, if_f, add_i, sub_i, lss_i, leq_i, gtr_i, geq_i, eql_i, neq_i, min_i, max_i, conv_i, len_sl, len_nil, not_b, cells_agg, new_s, fld_p, nil_p, hz, if_pos h4]
    unfold F23.p4 F23.p0
    have hst := fun {α : Type} (c : Store → Option α) => x_st x3 (j := 9) (w := wv) (by decide) q2.one c
    rw [hx2] at hst
    simp only [bnd, guard_tt, guard_ff, guard_tf, guard_ft, pick_t, pick_f, if_t, if_f, add_i, sub_i, lss_i, leq_i, gtr_i, geq_i, eql_i, neq_i, min_i, max_i, conv_i, len_sl, len_nil, not_b, cells_agg, new_s, fld_p, nil_p, hst]
    have hown := IsX.own (v' := { v2 with dv := wv }) (m' := { mv2 with decided := (judgeX mv2 held).2 }) x3 rfl rfl rfl rfl rfl rfl rfl rfl rfl rfl x3.est x3.vote q2' (fun q => absurd q (judge4 h4)) x3.rnd
    have hown' : IsX (s3.set v.x (.cells (xcells { v2 with dv := wv } { mv2 with decided := (judgeX mv2 held).2 }) false)) M { v2 with dv := wv } { mv2 with decided := (judgeX mv2 held).2 } := by rw [← hx2]; exact hown
    have hcs : (xcells v2 mv2).set 9 wv = xcells { v2 with dv := wv } { mv2 with decided := (judgeX mv2 held).2 } := rfl
    rw [hcs]
    exact ⟨_, rfl, ⟨_, hown', hx2, hf2⟩, F3.trans ((Fr1.set _ _ _).frS (S := [v.x, v.fr]) (by simp)) fun l hl => .inl hl⟩
  have hz4 : (((((judgeX mv2 held).1 : Nat)) : Int) == 4) = false := by simp; omega
  simp only [bnd, guard_tt, guard_ff, guard_tf, guard_ft, pick_t, pick_f, if_t, if_f, add_i, sub_i, lss_i, leq_i, gtr_i, geq_i, eql_i, neq_i, min_i, max_i, conv_i, len_sl, len_nil, not_b, cells_agg, new_s, fld_p, nil_p, hz4, if_neg h4]
  by_cases h3 : (judgeX mv2 held).1 = 3
  · have hz : (((((judgeX mv2 held).1 : Nat)) : Int) == 3) = true := by rw [h3]; rfl
    simp only [bnd, guard_tt, guard_ff, guard_tf, guard_ft, pick_t, pick_f, if_t, if_f, add_i, sub_i, lss_i, leq_i, gtr_i, geq_i, eql_i, neq_i, min_i, max_i, conv_i, len_sl, len_nil, not_b, cells_agg, new_s, fld_p, nil_p, hz, if_pos h3]
    unfold F23.p3
    have hst := fun {α : Type} (c : Store → Option α) => x_st x3 (j := 6) (w := wv) (by decide) q2.one c
    rw [hx2] at hst
    simp only [bnd, guard_tt, guard_ff, guard_tf, guard_ft, pick_t, pick_f, if_t, if_f, add_i, sub_i, lss_i, leq_i, gtr_i, geq_i, eql_i, neq_i, min_i, max_i, conv_i, len_sl, len_nil, not_b, cells_agg, new_s, fld_p, nil_p, hst]
    have hown := IsX.own (v' := { v2 with ev := wv }) (m' := { mv2 with est := (judgeX mv2 held).2 }) x3 rfl rfl rfl rfl rfl rfl rfl rfl rfl rfl q2' x3.vote x3.dec x3.decn x3.rnd
    have hown' : IsX (s3.set v.x (.cells (xcells { v2 with ev := wv } { mv2 with est := (judgeX mv2 held).2 }) false)) M { v2 with ev := wv } { mv2 with est := (judgeX mv2 held).2 } := by rw [← hx2]; exact hown
    have hcs : (xcells v2 mv2).set 6 wv = xcells { v2 with ev := wv } { mv2 with est := (judgeX mv2 held).2 } := rfl
    rw [hcs]
    exact beg _ _ _ hown' hx2 hf2 (F3.trans ((Fr1.set _ _ _).frS (S := [v.x, v.fr]) (by simp)) fun l hl => .inl hl) rfl
  have hz3 : (((((judgeX mv2 held).1 : Nat)) : Int) == 3) = false := by simp; omega
  simp only [bnd, guard_tt, guard_ff, guard_tf, guard_ft, pick_t, pick_f, if_t, if_f, add_i, sub_i, lss_i, leq_i, gtr_i, geq_i, eql_i, neq_i, min_i, max_i, conv_i, len_sl, len_nil, not_b, cells_agg, new_s, fld_p, nil_p, hz3, if_neg h3]
  by_cases h2 : (judgeX mv2 held).1 = 2
  · have hz : (((((judgeX mv2 held).1 : Nat)) : Int) == 2) = true := by rw [h2]; rfl
    simp only [bnd, guard_tt, guard_ff, guard_tf, guard_ft, pick_t, pick_f, if_t, if_f, add_i, sub_i, lss_i, leq_i, gtr_i, geq_i, eql_i, neq_i, min_i, max_i, conv_i, len_sl, len_nil, not_b, cells_agg, new_s, fld_p, nil_p, hz, if_pos h2]
    exact beg _ _ _ x3 hx2 hf2 F3 rfl
  have hz2 : (((((judgeX mv2 held).1 : Nat)) : Int) == 2) = false := by simp; omega
  simp only [bnd, guard_tt, guard_ff, guard_tf, guard_ft, pick_t, pick_f, if_t, if_f, add_i, sub_i, lss_i, leq_i, gtr_i, geq_i, eql_i, neq_i, min_i, max_i, conv_i, len_sl, len_nil, not_b, cells_agg, new_s, fld_p, nil_p, hz2, if_neg h2]
  unfold F23.p1
  exact ⟨s3, rfl, ⟨v2, x3, hx2, hf2⟩, F3⟩
theorem decided_run {v : XV} {m : XI} (h : IsX s M v m) (k : Nat) : ∃ s' w, rn (k + 2) 17 [.ptr v.x 0 11] s = some (.tuple [w, .bool (!decide (m.decided = []))], s') ∧ OwnL rcells 3 s' w m.decided s.next ∧ Ext s s' := by
  rw [show k + 2 = (k + 1) + 1 from rfl, F17.eq]
  unfold F17.f F17.p0
  have ld9 := fun {α : Type} (c : AV → Option α) => x_fld h (j := 9) (w := v.dv) rfl c
  by_cases hd : m.decided = []
  · have hdv := h.decn hd
    have hq : ∀ {α : Type} (c : Bool → Option α), aEq .sl v.dv .nilsl c = c true := fun c => by rw [hdv]; rfl
    simp only [nilp_p, bnd, guard_tt, guard_ff, guard_tf, guard_ft, pick_t, pick_f, if_t, if_f, add_i, sub_i, lss_i, leq_i, gtr_i, geq_i, eql_i, neq_i, min_i, max_i, conv_i, len_sl, len_nil, not_b, cells_agg, new_s, fld_p, nil_p, ld9, hq]
    rw [decide_eq_true hd, hd]
    exact ⟨s, _, rfl, .nil _ _ _ _, Ext.refl _⟩
  · have hq : ∀ {α : Type} (c : Bool → Option α), aEq .sl v.dv .nilsl c = c false := fun c => by
      rcases h.dec.is with ⟨_, q⟩ | ⟨id, ro, q, _⟩
      · exact absurd q hd
      · rw [q]; rfl
    obtain ⟨w, s1, a1, a2, a3⟩ := clone_runs h.dec.is (by have := h.dec.len; omega) k
    simp only [nilp_p, bnd, guard_tt, guard_ff, guard_tf, guard_ft, pick_t, pick_f, if_t, if_f, add_i, sub_i, lss_i, leq_i, gtr_i, geq_i, eql_i, neq_i, min_i, max_i, conv_i, len_sl, len_nil, not_b, cells_agg, new_s, fld_p, nil_p, ld9, hq, a1]
    rw [decide_eq_false hd]
    exact ⟨s1, w, rfl, a2, a3⟩
end Go.Proofs.Ytmaidlndikcgkaa.Sim
namespace Go.Proofs.Ytmaidlndikcgkaa.Sim
set_option linter.unusedSimpArgs false
set_option linter.unusedVariables false

/-- A frame that goes out. -/
structure OF where
  kind : Nat
  src : Nat
  round : Int
  est : List Rn
  aux : List Rn
def OF.toIF (f : OF) : IFm := ⟨(f.kind : Int), (f.src : Int), 1, f.round, f.est, f.aux⟩
def outX (m : XI) : List OF := if m.decided ≠ [] then [⟨8, m.me, 0, m.decided, []⟩] else ⟨6, m.me, m.round, m.est, []⟩ :: (if m.cast = true then [⟨7, m.me, m.round, m.est, m.vote⟩] else [])

/-- Who voted for what, and who had which estimate, in a round. -/
abbrev Gh := Nat → Int → Option (List Rn)
def nils (n : Nat) (V : Gh) (r : Int) : Nat := (List.range n).countP fun a => decide (V a r = some [])
def fors (n : Nat) (V : Gh) (r : Int) (e : List Rn) : Nat := (List.range n).countP fun a => decide (V a r = some e)
/-- It may still be that a majority votes in the round. -/
def Open (n : Nat) (V : Gh) (r : Int) : Prop := n / 2 + 1 + nils n V r ≤ n
def Dec (n : Nat) (V : Gh) (e : List Rn) : Prop := e ≠ [] ∧ ∃ r, n / 2 + 1 ≤ fors n V r e
structure KK (n : Nat) (mine : Nat → List Rn) (b : Int) (V E : Gh) : Prop where
  vot : ∀ p r v, V p r = some v → v = [] ∨ E (coordN n 1 r) r = some v
  lock : ∀ r r' p e, r < r' → E p r' = some e → Open n V r → e ≠ [] ∧ E (coordN n 1 r) r = some e
  val : ∀ p r e, E p r = some e → e = [] ∨ ∃ q, q < n ∧ e = mine q
  bnd : ∀ p r e, E p r = some e → r ≤ b
/-- A frame that is kept of a process. -/
def FOk (V E : Gh) (a ph : Nat) (f : SF) : Prop := E a f.round = some f.est ∧ (ph = 1 → V a f.round = some f.aux)
structure PLoc (n : Nat) (V E : Gh) (p : Nat) (m : XI) : Prop where
  hn : m.n = n
  me : m.me = p
  num : m.number = 1
  rnd : 0 ≤ m.round
  est : E p m.round = some m.est
  vote : m.cast = true → V p m.round = some m.vote
  none_ : m.cast = false → V p m.round = none ∧ m.vote = []
  later : ∀ r, m.round < r → E p r = none ∧ V p r = none
  frl : m.fr.length = n * 2
  frs : ∀ a ph f, a < n → ph < 2 → frAt m a ph = some f → FOk V E a ph f
  own : ∀ ph, ph < 2 → frAt m p ph = none
  dec : m.decided ≠ [] → Dec n V m.decided
/-- More is known, of one process. -/
structure Grow (p : Nat) (V E V' E' : Gh) : Prop where
  v : ∀ a r w, V a r = some w → V' a r = some w
  e : ∀ a r w, E a r = some w → E' a r = some w
  vo : ∀ a, a ≠ p → V' a = V a
  eo : ∀ a, a ≠ p → E' a = E a
theorem Grow.refl (p : Nat) (V E : Gh) : Grow p V E V E := ⟨fun _ _ _ h => h, fun _ _ _ h => h, fun _ _ => rfl, fun _ _ => rfl⟩
theorem Grow.trans {p : Nat} {V E V' E' V'' E'' : Gh} (h : Grow p V E V' E') (k : Grow p V' E' V'' E'') : Grow p V E V'' E'' :=
  ⟨fun a r w q => k.v a r w (h.v a r w q), fun a r w q => k.e a r w (h.e a r w q), fun a q => (k.vo a q).trans (h.vo a q), fun a q => (k.eo a q).trans (h.eo a q)⟩
def up2 (V : Gh) (p : Nat) (r : Int) (w : List Rn) : Gh := fun a r' => if a = p ∧ r' = r then some w else V a r'
theorem up2_at (V : Gh) (p : Nat) (r : Int) (w : List Rn) : up2 V p r w p r = some w := by simp [up2]
theorem up2_ne {V : Gh} {p a : Nat} {r r' : Int} {w : List Rn} (h : ¬ (a = p ∧ r' = r)) : up2 V p r w a r' = V a r' := by simp [up2, h]
theorem up2_mono {V : Gh} {p : Nat} {r : Int} {w : List Rn} (h : V p r = none) : ∀ a r' x, V a r' = some x → up2 V p r w a r' = some x := by
  intro a r' x q
  rw [up2_ne]
  · exact q
  · rintro ⟨rfl, rfl⟩
    rw [h] at q
    cases q
theorem countP_mono2 {l : List Nat} {p q : Nat → Bool} (h : ∀ a, p a = true → q a = true) : l.countP p ≤ l.countP q := List.countP_mono_left fun a _ => h a
theorem nils_mono {n p : Nat} {V E V' E' : Gh} (g : Grow p V E V' E') (r : Int) : nils n V r ≤ nils n V' r := countP_mono2 fun a h => by
  simp only [decide_eq_true_eq] at h ⊢
  exact g.v _ _ _ h
theorem fors_mono {n p : Nat} {V E V' E' : Gh} (g : Grow p V E V' E') (r : Int) (e : List Rn) : fors n V r e ≤ fors n V' r e := countP_mono2 fun a h => by
  simp only [decide_eq_true_eq] at h ⊢
  exact g.v _ _ _ h
theorem Open.old {n p : Nat} {V E V' E' : Gh} (g : Grow p V E V' E') {r : Int} (h : Open n V' r) : Open n V r := by
  have := nils_mono (n := n) g r
  unfold Open at h ⊢
  omega
theorem Dec.grow {n p : Nat} {V E V' E' : Gh} (g : Grow p V E V' E') {e : List Rn} (h : Dec n V e) : Dec n V' e := by
  obtain ⟨h1, r, h2⟩ := h
  exact ⟨h1, r, Nat.le_trans h2 (fors_mono g r e)⟩
theorem FOk.grow {p a ph : Nat} {V E V' E' : Gh} (g : Grow p V E V' E') {f : SF} (h : FOk V E a ph f) : FOk V' E' a ph f := ⟨g.e _ _ _ h.1, fun q => g.v _ _ _ (h.2 q)⟩
theorem PLoc.other {n p q : Nat} {V E V' E' : Gh} {m : XI} (g : Grow p V E V' E') (hq : q ≠ p) (h : PLoc n V E q m) : PLoc n V' E' q m :=
  ⟨h.hn, h.me, h.num, h.rnd, g.e _ _ _ h.est, fun c => g.v _ _ _ (h.vote c), fun c => by rw [g.vo q hq]; exact h.none_ c, fun r hr => by rw [g.vo q hq, g.eo q hq]; exact h.later r hr, h.frl, fun a ph f ha hp hf => (h.frs a ph f ha hp hf).grow g, h.own, fun d => (h.dec d).grow g⟩
/-- Two majorities have a process in common: votes for a batch, and votes for none, are apart. -/
theorem fors_nils {n : Nat} {V : Gh} {r : Int} {e : List Rn} (he : e ≠ []) : fors n V r e + nils n V r ≤ n := by
  unfold fors nils
  have : ∀ l : List Nat, (l.countP fun a => decide (V a r = some e)) + (l.countP fun a => decide (V a r = some [])) ≤ l.length := by
    intro l
    induction l with
    | nil => simp
    | cons a l ih =>
      simp only [List.countP_cons, List.length_cons]
      by_cases h1 : V a r = some e
      · have h2 : ¬ V a r = some [] := fun q => he (by rw [h1] at q; exact Option.some.inj q)
        simp only [h1, decide_true, if_true, decide_eq_true_eq]
        have h3 : ¬ (some e : Option (List Rn)) = some [] := fun q => he (Option.some.inj q)
        simp only [h3, if_false]
        omega
      · simp only [h1, decide_false, Bool.false_eq_true, if_false]
        split <;> omega
  have h := this (List.range n)
  rw [List.length_range] at h
  exact h
theorem fors_some {n : Nat} {V : Gh} {r : Int} {e : List Rn} (h : 0 < fors n V r e) : ∃ a, V a r = some e := by
  unfold fors at h
  obtain ⟨a, _, ha⟩ := List.countP_pos_iff.1 h
  exact ⟨a, by simpa using ha⟩
theorem Dec.open_ {n : Nat} {V : Gh} {e : List Rn} {r : Int} (he : e ≠ []) (h : n / 2 + 1 ≤ fors n V r e) : Open n V r := by
  have := fors_nils (n := n) (V := V) (r := r) he
  unfold Open
  omega
/-- AGREEMENT. -/
theorem dec_same {n : Nat} {mine : Nat → List Rn} {b : Int} {V E : Gh} (k : KK n mine b V E) {e e' : List Rn} (h : Dec n V e) (h' : Dec n V e') : e = e' := by
  obtain ⟨he, r, hr⟩ := h
  obtain ⟨he', r', hr'⟩ := h'
  obtain ⟨a, ha⟩ := fors_some (show 0 < fors n V r e by omega)
  obtain ⟨a', ha'⟩ := fors_some (show 0 < fors n V r' e' by omega)
  have h1 : E (coordN n 1 r) r = some e := (k.vot _ _ _ ha).resolve_left he
  have h2 : E (coordN n 1 r') r' = some e' := (k.vot _ _ _ ha').resolve_left he'
  rcases Int.lt_trichotomy r r' with q | q | q
  · have h3 := (k.lock r r' _ _ q h2 (Dec.open_ he hr)).2
    rw [h1] at h3
    exact Option.some.inj h3
  · subst q
    rw [h1] at h2
    exact Option.some.inj h2
  · have h3 := (k.lock r' r _ _ q h1 (Dec.open_ he' hr')).2
    rw [h2] at h3
    exact (Option.some.inj h3).symm
theorem dec_val {n : Nat} {mine : Nat → List Rn} {b : Int} {V E : Gh} (k : KK n mine b V E) {e : List Rn} (h : Dec n V e) : ∃ q, q < n ∧ e = mine q := by
  obtain ⟨he, r, hr⟩ := h
  obtain ⟨a, ha⟩ := fors_some (show 0 < fors n V r e by omega)
  have h1 : E (coordN n 1 r) r = some e := (k.vot _ _ _ ha).resolve_left he
  exact (k.val _ _ _ h1).resolve_left he

/-- The estimate as a round begins. -/
def estB (m : XI) (held : List Int) (mine : List Rn) : List Rn := if m.est = [] ∧ mayR m.base m.most mine = true ∧ heldB held mine = true then mine else m.est
theorem estB_ne {m : XI} {held : List Int} {mine : List Rn} (h : m.est ≠ []) : estB m held mine = m.est := by unfold estB; rw [if_neg (fun q => h q.1)]
theorem estB_or (m : XI) (held : List Int) (mine : List Rn) : estB m held mine = mine ∨ estB m held mine = m.est := by unfold estB; split <;> simp
/-- A later round is begun. -/
theorem begin_ok {n p : Nat} {mine : Nat → List Rn} {b : Int} {V E : Gh} {m m1 : XI} {r : Int} {held : List Int} (k : KK n mine b V E) (h : PLoc n V E p m) (hp : p < n) (hr : m.round < r) (hb : r ≤ b)
    (hm1 : m1 = { m with est := m1.est }) (hval : m1.est = [] ∨ ∃ q, q < n ∧ m1.est = mine q)
    (hlock : ∀ r0, r0 < r → Open n V r0 → m1.est ≠ [] ∧ E (coordN n 1 r0) r0 = some m1.est) :
    ∃ E', Grow p V E V E' ∧ KK n mine b V E' ∧ PLoc n V E' p (beginX m1 r held (mine p)) := by
  have hnone := h.later r hr
  have hg : Grow p V E V (up2 E p r (estB m1 held (mine p))) := ⟨fun _ _ _ q => q, up2_mono hnone.1, fun _ _ => rfl, fun a ha => by
    funext r'
    exact up2_ne fun q => ha q.1⟩
  have e1 : m1.n = n := by rw [hm1]; exact h.hn
  have e2 : m1.me = p := by rw [hm1]; exact h.me
  have e3 : m1.number = 1 := by rw [hm1]; exact h.num
  have e4 : m1.fr = m.fr := by rw [hm1]
  have e5 : m1.decided = m.decided := by rw [hm1]
  have hfa : ∀ a ph, frAt (beginX m1 r held (mine p)) a ph = frAt m a ph := fun a ph => by
    show ((m1.fr)[a * 2 + ph]?).getD none = _
    rw [e4]
    rfl
  refine ⟨_, hg, ⟨fun a r' v hv => (k.vot a r' v hv).imp id fun q => hg.e _ _ _ q, fun r0 r' a e hlt he ho => ?_, fun a r' e he => ?_, fun a r' e he => ?_⟩, ⟨e1, e2, e3, by show (0 : Int) ≤ r; have := h.rnd; omega, up2_at _ _ _ _, (fun q => by cases q), fun _ => ⟨hnone.2, rfl⟩, fun r' hr' => ?_, by show m1.fr.length = _; rw [e4]; exact h.frl, fun a ph f ha hph hf => ?_, fun ph hph => by rw [hfa]; exact h.own ph hph, fun d => ?_⟩⟩
  · by_cases q : a = p ∧ r' = r
    · obtain ⟨rfl, rfl⟩ := q
      rw [up2_at] at he
      have hl := hlock r0 hlt ho
      rw [estB_ne hl.1] at he
      rw [← Option.some.inj he]
      exact ⟨hl.1, hg.e _ _ _ hl.2⟩
    · rw [up2_ne q] at he
      have hl := k.lock r0 r' a e hlt he ho
      exact ⟨hl.1, hg.e _ _ _ hl.2⟩
  · by_cases q : a = p ∧ r' = r
    · obtain ⟨rfl, rfl⟩ := q
      rw [up2_at] at he
      rw [← Option.some.inj he]
      rcases estB_or m1 held (mine a) with z | z
      · exact .inr ⟨a, hp, z⟩
      · rw [z]; exact hval
    · rw [up2_ne q] at he
      exact k.val a r' e he
  · by_cases q : a = p ∧ r' = r
    · rw [q.2]; exact hb
    · rw [up2_ne q] at he
      exact k.bnd a r' e he
  · have hr2 : r < r' := hr'
    have hl := h.later r' (by omega)
    refine ⟨?_, hl.2⟩
    rw [up2_ne (by omega)]
    exact hl.1
  · rw [hfa] at hf
    exact (h.frs a ph f ha hph hf).grow hg
  · have d' : m.decided ≠ [] := by rw [← e5]; exact d
    show Dec n V m1.decided
    rw [e5]
    exact h.dec d'
theorem best_mem {held : List Int} {r : Int} : ∀ (l : List (Option SF)) (a : Option SF) (b : SF), l.foldl (stepB held r) a = some b → a = some b ∨ ∃ i : Nat, l[i]? = some (some b)
  | [], a, b, h => .inl h
  | o :: l, a, b, h => by
    rcases best_mem l (stepB held r a o) b h with q | ⟨i, q⟩
    · unfold stepB at q
      cases o with
      | none => exact .inl q
      | some f =>
        simp only at q
        split at q
        · exact .inl q
        · cases a with
          | none =>
            simp only [Option.some.injEq] at q
            exact .inr ⟨0, by rw [q]; rfl⟩
          | some c =>
            simp only at q
            split at q
            · simp only [Option.some.injEq] at q
              exact .inr ⟨0, by rw [q]; rfl⟩
            · exact .inl q
    · exact .inr ⟨i + 1, q⟩
theorem jump_ok {n p : Nat} {mine : Nat → List Rn} {b : Int} {V E : Gh} {m : XI} {held : List Int} (k : KK n mine b V E) (h : PLoc n V E p m) (hp : p < n) :
    ∃ E', Grow p V E V E' ∧ KK n mine b V E' ∧ PLoc n V E' p (jumpX m held (mine p)).1 := by
  unfold jumpX
  cases hb : bestX m held with
  | none => exact ⟨E, Grow.refl _ _ _, k, h⟩
  | some f =>
    simp only
    have hr := foldl_mem held m.round m.fr f hb
    rcases best_mem m.fr none f hb with q | ⟨i, q⟩
    · cases q
    have hil : i < n * 2 := by rw [← h.frl]; exact (List.getElem?_eq_some_iff.1 q).1
    have hfa : frAt m (i / 2) (i % 2) = some f := by
      unfold frAt
      rw [show i / 2 * 2 + i % 2 = i by omega, q]
      rfl
    have hok := h.frs (i / 2) (i % 2) f (by omega) (by omega) hfa
    refine begin_ok (m1 := { m with est := if f.est = [] then m.est else f.est }) k h hp hr (k.bnd _ _ _ hok.1) rfl ?_ ?_
    · show (if f.est = [] then m.est else f.est) = [] ∨ ∃ q, q < n ∧ (if f.est = [] then m.est else f.est) = mine q
      by_cases z : f.est = []
      · rw [if_pos z]; exact k.val _ _ _ h.est
      · rw [if_neg z]; exact k.val _ _ _ hok.1
    · intro r0 hr0 ho
      have hl := k.lock r0 f.round _ _ hr0 hok.1 ho
      show (if f.est = [] then m.est else f.est) ≠ [] ∧ E (coordN n 1 r0) r0 = some (if f.est = [] then m.est else f.est)
      rw [if_neg hl.1]
      exact hl
theorem cast_ok {n p : Nat} {mine : Nat → List Rn} {b : Int} {V E : Gh} {m : XI} {w : List Rn} (k : KK n mine b V E) (h : PLoc n V E p m) (hc : m.cast = false) (hw : w = [] ∨ E (coordN n 1 m.round) m.round = some w) :
    ∃ V', Grow p V E V' E ∧ KK n mine b V' E ∧ PLoc n V' E p { m with vote := w, cast := true } := by
  have hnone := (h.none_ hc).1
  have hg : Grow p V E (up2 V p m.round w) E := ⟨up2_mono hnone, fun _ _ _ q => q, fun a ha => by
    funext r'
    exact up2_ne fun q => ha q.1, fun _ _ => rfl⟩
  refine ⟨_, hg, ⟨fun a r' v hv => ?_, fun r0 r' a e hlt he ho => k.lock r0 r' a e hlt he (ho.old hg), k.val, k.bnd⟩, ⟨h.hn, h.me, h.num, h.rnd, h.est, fun _ => up2_at _ _ _ _, (fun q => by cases q), fun r' hr' => ?_, h.frl, fun a ph f ha hph hf => (h.frs a ph f ha hph hf).grow hg, h.own, fun d => (h.dec d).grow hg⟩⟩
  · by_cases q : a = p ∧ r' = m.round
    · obtain ⟨rfl, rfl⟩ := q
      rw [up2_at] at hv
      rw [← Option.some.inj hv]
      exact hw
    · rw [up2_ne q] at hv
      exact k.vot a r' v hv
  · have hr2 : m.round < r' := hr'
    have hl := h.later r' hr2
    refine ⟨hl.1, ?_⟩
    rw [up2_ne (by omega)]
    exact hl.2
theorem ofX_ok {n p a ph : Nat} {V E : Gh} {m : XI} (h : PLoc n V E p m) (ha : a < n) (hph : ph < 2) {f : SF} (hf : ofX m a ph = some f) : FOk V E a ph f ∧ f.round = m.round := by
  unfold ofX at hf
  cases hx : frAt m a ph with
  | none => rw [hx] at hf; cases hf
  | some g =>
    rw [hx] at hf
    simp only at hf
    split at hf
    · rename_i hr
      have hgf := Option.some.inj hf
      subst hgf
      exact ⟨h.frs a ph g ha hph hx, hr⟩
    · cases hf
theorem votes_ok {n p : Nat} {mine : Nat → List Rn} {b : Int} {V E : Gh} {m : XI} {held sus : List Int} (k : KK n mine b V E) (h : PLoc n V E p m) (hp : p < n) :
    ∃ V', Grow p V E V' E ∧ KK n mine b V' E ∧ PLoc n V' E p (votesX m held sus).1 := by
  unfold votesX
  have hc1 : coordN m.n m.number m.round = coordN n 1 m.round := by rw [h.hn, h.num]
  rw [hc1]
  have hcl := coordN_lt (n := n) (by omega) 1 m.round
  cases hc : m.cast
  rotate_left
  · exact ⟨V, Grow.refl _ _ _, k, h⟩
  simp only [Bool.false_eq_true, if_false]
  split
  · rename_i hme
    exact cast_ok k h hc (.inr (by rw [hme, h.me]; exact h.est))
  · cases hof : ofX m (coordN n 1 m.round) 0 with
    | none =>
      simp only
      split
      · have := cast_ok (w := m.vote) k h hc (.inl (h.none_ hc).2)
        exact this
      · exact ⟨V, Grow.refl _ _ _, k, h⟩
    | some f =>
      simp only
      obtain ⟨hok, hr⟩ := ofX_ok h hcl (by decide) hof
      refine cast_ok k h hc ?_
      by_cases z : heldB held f.est = true
      · rw [if_pos z]
        have := hok.1
        rw [hr] at this
        exact .inr this
      · rw [if_neg z]
        exact .inl (h.none_ hc).2
end Go.Proofs.Ytmaidlndikcgkaa.Sim
namespace Go.Proofs.Ytmaidlndikcgkaa.Sim
set_option linter.unusedSimpArgs false
set_option linter.unusedVariables false

theorem cnt_fm (q : List Rn → Bool) (f : Nat → Option (List Rn)) : ∀ l : List Nat, (l.filterMap f).countP q = l.countP fun a => match f a with | some v => q v | none => false
  | [] => rfl
  | a :: l => by
    rw [List.filterMap_cons, List.countP_cons]
    cases h : f a with
    | none => simp [cnt_fm q f l]
    | some v => simp only [List.countP_cons, cnt_fm q f l]
theorem cnt_one {Q : Nat → Bool} {p : Nat} (hQ : Q p = false) : ∀ n, (List.range n).countP (fun a => Q a || decide (a = p)) = (List.range n).countP Q + if p < n then 1 else 0
  | 0 => rfl
  | n + 1 => by
    rw [List.range_succ, List.countP_append, List.countP_append, cnt_one hQ n]
    simp only [List.countP_cons, List.countP_nil]
    by_cases h1 : n = p
    · subst h1
      rw [if_neg (Nat.lt_irrefl _), if_pos (Nat.lt_succ_self _), hQ]
      simp
    · have h2 : decide (n = p) = false := decide_eq_false h1
      rw [h2, Bool.or_false]
      have h4 : (if p < n + 1 then 1 else 0 : Nat) = if p < n then 1 else 0 := by
        by_cases h3 : p < n
        · rw [if_pos h3, if_pos (Nat.lt_succ_of_lt h3)]
        · rw [if_neg h3, if_neg (by omega)]
      rw [h4]
      omega
theorem votedV_mem {l : List (List Rn)} (h : votedV l ≠ []) : votedV l ∈ l := by
  have keep : ∀ (l : List (List Rn)) (a : List Rn), a ≠ [] → l.foldl (fun a v => if a = [] then v else a) a = a := by
    intro l
    induction l with
    | nil => intro a _; rfl
    | cons v l ih => intro a ha; rw [List.foldl_cons, if_neg ha]; exact ih a ha
  have key : ∀ (l : List (List Rn)) (a : List Rn), a = [] → l.foldl (fun a v => if a = [] then v else a) a ≠ [] → l.foldl (fun a v => if a = [] then v else a) a ∈ l := by
    intro l
    induction l with
    | nil => intro a ha h; exact absurd ha h
    | cons v l ih =>
      intro a ha h
      rw [List.foldl_cons, if_pos ha] at h ⊢
      by_cases hv : v = []
      · exact List.mem_cons_of_mem _ (ih v hv h)
      · rw [keep l v hv]
        exact List.mem_cons_self
  exact key l [] rfl h
theorem allV_vote {n p : Nat} {mine : Nat → List Rn} {b : Int} {V E : Gh} {m : XI} (k : KK n mine b V E) (h : PLoc n V E p m) (hc : m.cast = true) {w : List Rn} (hw : w ∈ allV m) (hne : w ≠ []) : E (coordN n 1 m.round) m.round = some w := by
  rcases List.mem_cons.1 hw with rfl | hw
  · exact (k.vot _ _ _ (h.vote hc)).resolve_left hne
  · unfold auxs at hw
    obtain ⟨a, ha, hf⟩ := List.mem_filterMap.1 hw
    have han : a < n := by rw [← h.hn]; exact List.mem_range.1 ha
    cases ho : ofX m a 1 with
    | none => rw [ho] at hf; cases hf
    | some f =>
      rw [ho] at hf
      have hfw : f.aux = w := Option.some.inj hf
      obtain ⟨hok, hr⟩ := ofX_ok h han (by decide) ho
      have hv := hok.2 rfl
      rw [hr, hfw] at hv
      exact (k.vot _ _ _ hv).resolve_left hne
/-- Votes that are seen are votes that were cast. -/
theorem seen_le {n p : Nat} {V E : Gh} {m : XI} (h : PLoc n V E p m) (hp : p < n) (hc : m.cast = true) (q : List Rn → Bool) (R : Nat → Bool) (hR : ∀ a w, V a m.round = some w → q w = true → R a = true) : (allV m).countP q ≤ (List.range n).countP R := by
  unfold allV auxs
  rw [List.countP_cons, cnt_fm, h.hn]
  have hself : ofX m p 1 = none := by unfold ofX; rw [h.own 1 (by decide)]
  have hQp : (match (ofX m p 1).map (·.aux) with | some v => q v | none => false) = false := by rw [hself]; rfl
  have himp : ∀ a, a < n → (match (ofX m a 1).map (·.aux) with | some v => q v | none => false) = true → R a = true := by
    intro a ha hq
    cases ho : ofX m a 1 with
    | none => rw [ho] at hq; cases hq
    | some f =>
      rw [ho] at hq
      obtain ⟨hok, hr⟩ := ofX_ok h ha (by decide) ho
      have hv := hok.2 rfl
      rw [hr] at hv
      exact hR a f.aux hv hq
  cases hqv : q m.vote
  · simp only [Bool.false_eq_true, if_false, Nat.add_zero]
    refine List.countP_mono_left fun a ha hq => ?_
    exact himp a (List.mem_range.1 ha) hq
  · simp only [if_true]
    have h1 := cnt_one (Q := fun a => match (ofX m a 1).map (·.aux) with | some v => q v | none => false) hQp n
    rw [if_pos hp] at h1
    rw [← h1]
    refine List.countP_mono_left fun a ha hq => ?_
    rcases Bool.or_eq_true_iff.1 hq with z | z
    · exact himp a (List.mem_range.1 ha) z
    · have hap : a = p := by simpa using z
      subst hap
      exact hR a m.vote (h.vote hc) hqv
theorem KK.mono {n : Nat} {mine : Nat → List Rn} {b b' : Int} {V E : Gh} (k : KK n mine b V E) (h : b ≤ b') : KK n mine b' V E := ⟨k.vot, k.lock, k.val, fun p r e q => by have := k.bnd p r e q; omega⟩
theorem judgeN_cases {n a c : Nat} {held : Bool} : (judgeN n a c held = 4 → n / 2 + 1 ≤ a) ∧ (judgeN n a c held = 3 → 0 < a) ∧ (judgeN n a c held = 2 → (a = 0 ∧ n / 2 + 1 ≤ c) ∨ n - c < n / 2 + 1) := by
  unfold judgeN
  split
  · exact ⟨fun q => (by cases q), fun q => (by cases q), fun q => (by cases q)⟩
  split
  · exact ⟨fun _ => (by omega), fun q => (by cases q), fun q => (by cases q)⟩
  split
  · exact ⟨fun q => (by cases q), fun q => (by cases q), fun q => (by cases q)⟩
  split
  · exact ⟨fun q => (by cases q), fun q => (by cases q), fun _ => .inl (by omega)⟩
  split
  · exact ⟨fun q => (by cases q), fun _ => (by omega), fun q => (by cases q)⟩
  split
  · exact ⟨fun q => (by cases q), fun q => (by cases q), fun _ => .inr (by omega)⟩
  · exact ⟨fun q => (by cases q), fun q => (by cases q), fun q => (by cases q)⟩
theorem end_ok {n p : Nat} {mine : Nat → List Rn} {b : Int} {V E : Gh} {m : XI} {held : List Int} {ch : Bool} (k : KK n mine b V E) (h : PLoc n V E p m) (hp : p < n) (hc : m.cast = true) (hb : b + 1 < 18446744073709551616) :
    ∃ E', Grow p V E V E' ∧ KK n mine (b + 1) V E' ∧ PLoc n V E' p (endX m held (mine p) ch).1 := by
  have hrb := k.bnd _ _ _ h.est
  have hr0 := h.rnd
  have hwr : IntKind.u64.wrap (m.round + 1) = m.round + 1 := w_u64 (by omega) (by omega)
  have hj := judgeN_cases (n := m.n) (a := someV (allV m)) (c := noneV (allV m)) (held := heldB held (votedV (allV m)))
  rw [h.hn] at hj
  have hvne : 0 < someV (allV m) → votedV (allV m) ≠ [] ∧ E (coordN n 1 m.round) m.round = some (votedV (allV m)) := fun q => ⟨votedV_ne q, allV_vote k h hc (votedV_mem (votedV_ne q)) (votedV_ne q)⟩
  have hjx : (judgeX m held).1 = judgeN n (someV (allV m)) (noneV (allV m)) (heldB held (votedV (allV m))) := by show judgeN m.n _ _ _ = _; rw [h.hn]
  have hjv : (judgeX m held).2 = votedV (allV m) := rfl
  unfold endX
  rw [hjx, hjv, hwr]
  split
  · rename_i h4
    have h4' := hj.1 h4
    have hv := hvne (by omega)
    refine ⟨E, Grow.refl _ _ _, k.mono (by omega), ⟨h.hn, h.me, h.num, h.rnd, h.est, h.vote, h.none_, h.later, h.frl, h.frs, h.own, fun _ => ⟨hv.1, m.round, ?_⟩⟩⟩
    refine Nat.le_trans h4' (seen_le h hp hc _ _ fun a w hw hq => ?_)
    have hne : w ≠ [] := by simpa using hq
    have := (k.vot _ _ _ hw).resolve_left hne
    rw [hv.2] at this
    rw [Option.some.inj this]
    exact decide_eq_true hw
  split
  · rename_i h3
    have hv := hvne (hj.2.1 h3)
    refine begin_ok (m1 := { m with est := votedV (allV m) }) (r := m.round + 1) (k.mono (by omega)) h hp (by omega) (by omega) rfl (k.val _ _ _ hv.2) fun r0 hr0' ho => ⟨hv.1, ?_⟩
    show E (coordN n 1 r0) r0 = some (votedV (allV m))
    by_cases q : r0 = m.round
    · rw [q]; exact hv.2
    · exact (k.lock r0 m.round _ _ (by omega) hv.2 ho).2
  split
  · rename_i h2
    have hk := hj.2.2 h2
    refine begin_ok (m1 := m) (r := m.round + 1) (k.mono (by omega)) h hp (by omega) (by omega) rfl (k.val _ _ _ h.est) fun r0 hr0' ho => ?_
    by_cases q : r0 = m.round
    · exfalso
      subst q
      have hn := seen_le h hp hc (fun v => decide (v = [])) (fun a => decide (V a m.round = some [])) fun a w hw hq => by
        have hw0 : w = [] := by simpa using hq
        rw [hw0] at hw
        exact decide_eq_true hw
      have hn' : noneV (allV m) ≤ nils n V m.round := hn
      have ho' : n / 2 + 1 + nils n V m.round ≤ n := ho
      omega
    · exact k.lock r0 m.round _ _ (by omega) h.est ho
  · exact ⟨E, Grow.refl _ _ _, k.mono (by omega), h⟩
theorem step_ok {n p : Nat} {mine : Nat → List Rn} {b : Int} {V E : Gh} {m : XI} {held sus : List Int} (k : KK n mine b V E) (h : PLoc n V E p m) (hp : p < n) (hb : b + 1 < 18446744073709551616) :
    ∃ V' E', Grow p V E V' E' ∧ KK n mine (b + 1) V' E' ∧ PLoc n V' E' p (stepX m held (mine p) sus).1 := by
  unfold stepX
  split
  · exact ⟨V, E, Grow.refl _ _ _, k.mono (by omega), h⟩
  obtain ⟨E1, g1, k1, h1⟩ := jump_ok (held := held) k h hp
  obtain ⟨V2, g2, k2, h2⟩ := votes_ok (held := held) (sus := sus) k1 h1 hp
  split
  · exact ⟨V2, E1, g1.trans g2, k2.mono (by omega), h2⟩
  · rename_i hc
    have hc' : (votesX (jumpX m held (mine p)).1 held sus).1.cast = true := by
      cases q : (votesX (jumpX m held (mine p)).1 held sus).1.cast
      · exact absurd q hc
      · rfl
    obtain ⟨E3, g3, k3, h3⟩ := end_ok (held := held) (ch := ((votesX (jumpX m held (mine p)).1 held sus).2 || (jumpX m held (mine p)).2)) k2 h2 hp hc' hb
    exact ⟨V2, E3, (g1.trans g2).trans g3, k3, h3⟩
/-- A frame that was sent. -/
structure OOk (n : Nat) (V E : Gh) (f : OF) : Prop where
  src : f.src < n
  k6 : f.kind = 6 → E f.src f.round = some f.est
  k7 : f.kind = 7 → E f.src f.round = some f.est ∧ V f.src f.round = some f.aux
  k8 : f.kind = 8 → Dec n V f.est
theorem OOk.grow {n p : Nat} {V E V' E' : Gh} (g : Grow p V E V' E') {f : OF} (h : OOk n V E f) : OOk n V' E' f := ⟨h.src, fun q => g.e _ _ _ (h.k6 q), fun q => ⟨g.e _ _ _ (h.k7 q).1, g.v _ _ _ (h.k7 q).2⟩, fun q => (h.k8 q).grow g⟩
theorem out_ok {n p : Nat} {V E : Gh} {m : XI} (h : PLoc n V E p m) (hp : p < n) : ∀ f ∈ outX m, OOk n V E f := by
  intro f hf
  unfold outX at hf
  split at hf
  · rename_i hd
    rw [List.mem_singleton.1 hf]
    exact ⟨by show m.me < n; rw [h.me]; exact hp, fun q => (by cases q), fun q => (by cases q), fun _ => h.dec hd⟩
  · rcases List.mem_cons.1 hf with rfl | hf
    · refine ⟨by show m.me < n; rw [h.me]; exact hp, fun _ => ?_, fun q => (by cases q), fun q => (by cases q)⟩
      show E m.me m.round = some m.est
      rw [h.me]; exact h.est
    · split at hf
      · rename_i hc
        rw [List.mem_singleton.1 hf]
        refine ⟨by show m.me < n; rw [h.me]; exact hp, fun q => (by cases q), fun _ => ?_, fun q => (by cases q)⟩
        show E m.me m.round = some m.est ∧ V m.me m.round = some m.vote
        rw [h.me]; exact ⟨h.est, h.vote hc⟩
      · cases hf
theorem come_ok {n p : Nat} {V E : Gh} {m : XI} {f : OF} (h : PLoc n V E p m) (hf : OOk n V E f) : PLoc n V E p (comeX m f.toIF).1 := by
  unfold comeX
  split
  · exact h
  rename_i hfit
  obtain ⟨t1, t2, t3, t4, t5, t6, t7, t8⟩ := fitsX_of (show fitsX m f.toIF = true by cases q : fitsX m f.toIF; exact absurd q hfit; rfl)
  have hme : f.src ≠ p := fun q => t2 (by show (f.src : Int) = (m.me : Int); rw [h.me, q])
  split
  · rename_i h8
    have h8' : f.kind = 8 := by have : (f.kind : Int) = 8 := h8; omega
    simp only
    split
    · exact ⟨h.hn, h.me, h.num, h.rnd, h.est, h.vote, h.none_, h.later, h.frl, h.frs, h.own, fun _ => hf.k8 h8'⟩
    · exact h
  rename_i h8
  have hk1 : f.kind = 6 ∨ f.kind = 7 := by
    have a1 : (6 : Int) ≤ (f.kind : Int) := t4
    have a2 : (f.kind : Int) ≤ 8 := t5
    have a3 : ¬ (f.kind : Int) = 8 := h8
    omega
  have hset : PLoc n V E p { m with fr := m.fr.set (f.toIF.src.toNat * 2 + (f.toIF.kind - 6).toNat) (some ⟨f.toIF.round, f.toIF.est, f.toIF.aux⟩) } := by
    have hi : f.toIF.src.toNat * 2 + (f.toIF.kind - 6).toNat = f.src * 2 + (f.kind - 6) := by
      show ((f.src : Int)).toNat * 2 + ((f.kind : Int) - 6).toNat = _
      omega
    rw [hi]
    have hat : ∀ a ph, frAt { m with fr := m.fr.set (f.src * 2 + (f.kind - 6)) (some ⟨f.toIF.round, f.toIF.est, f.toIF.aux⟩) } a ph = if f.src * 2 + (f.kind - 6) = a * 2 + ph then some ⟨f.round, f.est, f.aux⟩ else frAt m a ph := by
      intro a ph
      show ((m.fr.set (f.src * 2 + (f.kind - 6)) (some ⟨f.round, f.est, f.aux⟩))[a * 2 + ph]?).getD none = _
      rw [List.getElem?_set]
      by_cases q : f.src * 2 + (f.kind - 6) = a * 2 + ph
      · rw [if_pos q, if_pos q, if_pos (by rw [h.frl]; have := hf.src; omega)]
        rfl
      · rw [if_neg q, if_neg q]
        rfl
    refine ⟨h.hn, h.me, h.num, h.rnd, h.est, h.vote, h.none_, h.later, by show (m.fr.set _ _).length = _; rw [List.length_set]; exact h.frl, fun a ph g ha hph hg => ?_, fun ph hph => ?_, h.dec⟩
    · rw [hat] at hg
      split at hg
      · rename_i q
        have haf : a = f.src := by omega
        have hpf : ph = f.kind - 6 := by omega
        rw [← Option.some.inj hg]
        subst haf
        rcases hk1 with z | z
        · exact ⟨hf.k6 z, fun z2 => by omega⟩
        · exact ⟨(hf.k7 z).1, fun _ => (hf.k7 z).2⟩
      · exact h.frs a ph g ha hph hg
    · rw [hat, if_neg (by omega)]
      exact h.own ph hph
  split
  · exact hset
  · simp only
    split
    · exact hset
    · exact h

/-- What holds of a world of plain instances. -/
def WInv (n : Nat) (mine : Nat → List Rn) (b : Int) (L : List XI) (sent : List OF) : Prop := ∃ V E, KK n mine b V E ∧ L.length = n ∧ (∀ p (h : p < L.length), PLoc n V E p L[p]) ∧ ∀ f ∈ sent, OOk n V E f
theorem winv_step {n p : Nat} {mine : Nat → List Rn} {b : Int} {L : List XI} {sent : List OF} {held sus : List Int} (h : WInv n mine b L sent) (hp : p < L.length) (hb : b + 1 < 18446744073709551616) : WInv n mine (b + 1) (L.set p (stepX L[p] held (mine p) sus).1) (sent ++ outX (stepX L[p] held (mine p) sus).1) := by
  obtain ⟨V, E, k, hl, hloc, hs⟩ := h
  have hpn : p < n := by omega
  obtain ⟨V', E', g, k', h'⟩ := step_ok (held := held) (sus := sus) k (hloc p hp) hpn hb
  refine ⟨V', E', k', by rw [List.length_set]; exact hl, fun q hq => ?_, fun f hf => ?_⟩
  · rw [List.length_set] at hq
    by_cases z : p = q
    · subst z
      rw [List.getElem_set_self]
      exact h'
    · rw [List.getElem_set_ne z]
      exact (hloc q hq).other g (Ne.symm z)
  · rcases List.mem_append.1 hf with z | z
    · exact (hs f z).grow g
    · exact out_ok h' hpn f z
theorem winv_come {n p : Nat} {mine : Nat → List Rn} {b : Int} {L : List XI} {sent : List OF} {f : OF} (h : WInv n mine b L sent) (hp : p < L.length) (hf : f ∈ sent) : WInv n mine b (L.set p (comeX L[p] f.toIF).1) sent := by
  obtain ⟨V, E, k, hl, hloc, hs⟩ := h
  refine ⟨V, E, k, by rw [List.length_set]; exact hl, fun q hq => ?_, hs⟩
  rw [List.length_set] at hq
  by_cases z : p = q
  · subst z
    rw [List.getElem_set_self]
    exact come_ok (hloc p hp) (hs f hf)
  · rw [List.getElem_set_ne z]
    exact hloc q hq
/-- AGREEMENT, and whose batch it is. -/
theorem winv_agree {n : Nat} {mine : Nat → List Rn} {b : Int} {L : List XI} {sent : List OF} (h : WInv n mine b L sent) {p q : Nat} (hp : p < L.length) (hq : q < L.length) (dp : L[p].decided ≠ []) (dq : L[q].decided ≠ []) : L[p].decided = L[q].decided := by
  obtain ⟨V, E, k, hl, hloc, hs⟩ := h
  exact dec_same k ((hloc p hp).dec dp) ((hloc q hq).dec dq)
theorem winv_val {n : Nat} {mine : Nat → List Rn} {b : Int} {L : List XI} {sent : List OF} (h : WInv n mine b L sent) {p : Nat} (hp : p < L.length) (dp : L[p].decided ≠ []) : ∃ q, q < n ∧ L[p].decided = mine q := by
  obtain ⟨V, E, k, hl, hloc, hs⟩ := h
  exact dec_val k ((hloc p hp).dec dp)
end Go.Proofs.Ytmaidlndikcgkaa.Sim
namespace Go.Proofs.Ytmaidlndikcgkaa.Sim
set_option linter.unusedSimpArgs false
set_option linter.unusedVariables false
variable {s s' : Store} {M : List Nat}

theorem app_row {id n es m bytes : Nat} {xs new : List AV} {y : AV} (h : s.get id = .cells xs false) (hx : xs.length = n * es) (hy : ∀ {α : Type} (f : Nat → List AV → Option α), aCellsOf es y s f = f m new) (hn : new.length = m * es) (he : 0 < es) (hb : (n + m) * bytes ≤ 140737488355328) (hb0 : 0 < bytes) (hm : m ≠ 0) {α : Type} (f : AV → Store → Option α) :
    aAppend es bytes (.sl id 0 n es (n * es)) y s f = f (.sl id 0 (n + m) es ((n + m) * es)) (s.set id (.cells (xs ++ new) false)) := by
  simp only [aAppend, hy, aOwn, h, hx, if_true]
  rw [if_neg hm, if_pos ⟨by omega, hb, he, hb0⟩, Nat.add_mul]
/-- A thing is appended to a row of things. -/
theorem app_one {β : Type} {c : β → List AV} {es bytes : Nat} (hc : ∀ x, (c x).length = es) (he : 0 < es) (hby : 0 < bytes) {s : Store} {id n : Nat} {l : List β} (hn : l.length = n) (h : s.get id = .cells (l.map c).flatten false) (hl : id < s.next) (r : β) (hb : (n + 1) * bytes ≤ 140737488355328) :
    ∃ s', (∀ {α : Type} (f : AV → Store → Option α), aAppend es bytes (.sl id 0 n es (n * es)) (.sl s.next 0 1 es es) (s.push (.cells (c r) false)) f = f (.sl id 0 (n + 1) es ((n + 1) * es)) s') ∧ s'.get id = .cells ((l ++ [r]).map c).flatten false ∧ FrS [id] s s' := by
  have hg : (s.push (.cells (c r) false)).get id = .cells (l.map c).flatten false := by rw [get_push, if_neg (by omega)]; exact h
  have ht : (s.push (.cells (c r) false)).get s.next = .cells (c r) false := by rw [get_push, if_pos rfl]
  have hr := hc r
  have hfl : (l.map c).flatten.length = n * es := by rw [← hn]; exact flatL_len hc l
  refine ⟨_, fun f => app_row hg hfl (new := c r) (m := 1) (fun f => ?_) (by omega) he hb hby (by decide) f, by rw [get_set, if_pos rfl]; simp, ((Ext.push s _).frS _).trans ((Fr1.set _ _ _).frS (by simp)) (fun y hy => .inl hy)⟩
  simp [aCellsOf, aRow, ht, hr, List.take_of_length_le]
/-- A frame's cells, with its runs. -/
abbrev OFV := OF × AV × AV
def oc (num : Int) (x : OFV) : List AV := [.int .u8 (x.1.kind : Int), .int .u8 (x.1.src : Int), .int .u8 0, .int .u8 0, .int .u64 0, .int .u64 0, .int .u32 0, .int .u32 0, .int .u32 0, .int .u64 num, .int .u64 x.1.round, x.2.1, x.2.2, .nilsl, .nilsl, .nilsl]
theorem oc_len (num : Int) (x : OFV) : (oc num x).length = 16 := rfl
structure OFs (s : Store) (M : List Nat) (x : OFV) : Prop where
  est : IsRM s M x.2.1 x.1.est
  aux : IsRM s M x.2.2 x.1.aux
theorem OFs.ext {x : OFV} (h : OFs s M x) (e : Ext s s') : OFs s' M x := ⟨h.est.ext e, h.aux.ext e⟩
theorem IsRM.id_lt {v : AV} {l : List Rn} (h : IsRM s M v l) {i b c d e : Nat} (q : v = .sl i b c d e) : i < s.next := by
  rcases h.is with ⟨q1, _⟩ | ⟨id, ro, q1, h2, _⟩
  · rw [q1] at q; cases q
  · rw [q1] at q; injection q with q; omega
theorem own_gt {v : AV} {l : List Rn} {lo : Nat} (h : OwnL rcells 3 s v l lo) {z : Nat} (hz : z < lo) {i b c d e : Nat} (q : v = .sl i b c d e) : z < i := by
  rcases h with ⟨q1, _⟩ | ⟨id, q1, h2, _⟩
  · rw [q1] at q; cases q
  · rw [q1] at q; injection q with q; omega
theorem IsRM.frS1 {z : Nat} {v : AV} {l : List Rn} (h : IsRM s M v l) (e : FrS [z] s s') (hz : ∀ i b c d e, v = .sl i b c d e → i ≠ z) : IsRM s' M v l := ⟨h.is.frS e fun i b c d f q q2 => hz i b c d f q (List.mem_singleton.1 q2), h.off, h.wf, h.len⟩
theorem OFs.frS1 {z : Nat} {x : OFV} (h : OFs s M x) (e : FrS [z] s s') (h1 : ∀ i b c d e, x.2.1 = .sl i b c d e → i ≠ z) (h2 : ∀ i b c d e, x.2.2 = .sl i b c d e → i ≠ z) : OFs s' M x := ⟨h.est.frS1 e h1, h.aux.frS1 e h2⟩
theorem head_run {v : XV} {m : XI} (h : IsX s M v m) {c : Nat} (hc : s.get c = .cells [.ptr v.x 0 11] false) (hcl : c < s.next) (kind : Int) (k : Nat) : ∃ s', rn (k + 1) 46 [.int .u8 kind, .ptr c 0 1] s = some (.agg [.int .u8 kind, .int .u8 (m.me : Int), .int .u8 0], s') ∧ Ext s s' := by
  rw [F46.eq]
  unfold F46.f F46.p0
  have hl3 : [AV.int .u8 0, AV.int .u8 0, AV.int .u8 0].length = 3 := rfl
  have e1 := Ext.push s (.cells [AV.int .u8 0, AV.int .u8 0, AV.int .u8 0] false)
  have g1 : (s.push (.cells [AV.int .u8 0, AV.int .u8 0, AV.int .u8 0] false)).get s.next = .cells [AV.int .u8 0, AV.int .u8 0, AV.int .u8 0] false := by rw [get_push, if_pos rfl]
  have hc1 := (e1.get c hcl).trans hc
  have h1 := h.ext e1
  simp only [new_s, hl3]
  have n1 : s.next < (s.push (.cells [AV.int .u8 0, AV.int .u8 0, AV.int .u8 0] false)).next := Nat.lt_succ_self _
  generalize s.push (.cells [AV.int .u8 0, AV.int .u8 0, AV.int .u8 0] false) = s1 at e1 g1 hc1 h1 n1 ⊢
  have ldc : ∀ {α : Type} (f : AV → Option α), aLoad1 (.ptr c 0 1) s1 f = f (.ptr v.x 0 11) := fun f => load_1 hc1 rfl rfl
  have ld1 := fun {α : Type} (c : AV → Option α) => x_fld h1 (j := 1) (w := .int .i64 (m.me : Int)) rfl c
  have hw : IntKind.u8.wrap (m.me : Int) = (m.me : Int) := w_u8 (by omega) (by have := h.n1; have := h.me; omega)
  have hb : ∀ {α : Type} (f : List AV → Option α), aBuild [(0, 1, .int .u8 kind), (1, 1, .int .u8 (m.me : Int))] [AV.int .u8 0, AV.int .u8 0, AV.int .u8 0] f = f [.int .u8 kind, .int .u8 (m.me : Int), .int .u8 0] := fun f => rfl
  have hst : ∀ {α : Type} (f : Store → Option α), aStore 3 (.ptr s.next 0 3) (.agg [.int .u8 kind, .int .u8 (m.me : Int), .int .u8 0]) s1 f = f (s1.set s.next (.cells [.int .u8 kind, .int .u8 (m.me : Int), .int .u8 0] false)) := fun f => by
    simp only [aStore, aCells, aOwn, g1, if_true, List.length_cons, List.length_nil]
    rw [if_pos ⟨trivial, by omega⟩]
    rfl
  have hld : ∀ {α : Type} (f : AV → Option α), aLoadN 3 (.ptr s.next 0 3) (s1.set s.next (.cells [.int .u8 kind, .int .u8 (m.me : Int), .int .u8 0] false)) f = f (.agg [.int .u8 kind, .int .u8 (m.me : Int), .int .u8 0]) := fun f => load_n (off := 0) (ep := 3) (n := 3) (ro := false) (xs := [.int .u8 kind, .int .u8 (m.me : Int), .int .u8 0]) (by rw [get_set, if_pos rfl]) rfl (by decide)
  simp only [bnd, guard_tt, guard_ff, guard_tf, guard_ft, pick_t, pick_f, if_t, if_f, add_i, sub_i, lss_i, leq_i, gtr_i, geq_i, eql_i, neq_i, min_i, max_i, conv_i, len_sl, len_nil, not_b, cells_agg, new_s, fld_p, nil_p, ldc, ld1, hw, hb, hst, hld]
  exact ⟨_, rfl, ⟨e1.next, fun l hl => by rw [get_set, if_neg (by omega)]; exact e1.get l hl⟩⟩
def zero16 : List AV := [AV.int .u8 0, AV.int .u8 0, AV.int .u8 0, AV.int .u8 0, AV.int .u64 0, AV.int .u64 0, AV.int .u32 0, AV.int .u32 0, AV.int .u32 0, AV.int .u64 0, AV.int .u64 0, AV.nilsl, AV.nilsl, AV.nilsl, AV.nilsl, AV.nilsl]
set_option maxHeartbeats 1000000 in
theorem out_run {v : XV} {m : XI} (h : IsX s M v m) (hM : ∀ y ∈ M, y < s.next) (k : Nat) : ∃ s' ov l, rn (k + 4) 27 [.ptr v.x 0 11] s = some (ov, s') ∧ OwnL (oc m.number) 16 s' ov l s.next ∧ l.map (·.1) = outX m ∧ (∀ x ∈ l, OFs s' M x) ∧ Ext s s' := by
  rw [show k + 4 = (k + 3) + 1 from rfl, F27.eq]
  unfold F27.f F27.p13
  have cel : ∀ {α : Type} (f : List AV → Option α), aCells (.ptr v.x 0 11) f = f [.ptr v.x 0 11] := fun f => rfl
  have hl1 : [AV.ptr v.x 0 11].length = 1 := rfl
  have e1 := Ext.push s (.cells [.ptr v.x 0 11] false)
  have g1 : (s.push (.cells [.ptr v.x 0 11] false)).get s.next = .cells [.ptr v.x 0 11] false := by rw [get_push, if_pos rfl]
  have n1 : s.next < (s.push (.cells [.ptr v.x 0 11] false)).next := Nat.lt_succ_self _
  have h1 := h.ext e1
  simp only [cel, new_s, hl1]
  generalize s.push (.cells [.ptr v.x 0 11] false) = s1 at e1 g1 n1 h1 ⊢
  have hM1 : ∀ y ∈ M, y < s1.next := fun y hy => Nat.lt_of_lt_of_le (hM y hy) e1.next
  have ldc : ∀ {t : Store}, Ext s1 t → ∀ {α : Type} (f : AV → Option α), aLoad1 (.ptr s.next 0 1) t f = f (.ptr v.x 0 11) := fun {t} e {α} f => load_1 ((e.get _ n1).trans g1) rfl rfl
  have x2 : ∀ {t : Store}, Ext s1 t → ∀ {α : Type} (c : AV → Option α), aLoad1 (.ptr v.x (0 + 2) 11) t c = c (.int .u64 m.number) := fun {t} e {α} c => x_fld (h1.ext e) rfl c
  have x5 : ∀ {t : Store}, Ext s1 t → ∀ {α : Type} (c : AV → Option α), aLoad1 (.ptr v.x (0 + 5) 11) t c = c (.int .u64 m.round) := fun {t} e {α} c => x_fld (h1.ext e) rfl c
  have x7 : ∀ {t : Store}, Ext s1 t → ∀ {α : Type} (c : AV → Option α), aLoad1 (.ptr v.x (0 + 7) 11) t c = c v.vv := fun {t} e {α} c => x_fld (h1.ext e) rfl c
  have x8 : ∀ {t : Store}, Ext s1 t → ∀ {α : Type} (c : AV → Option α), aLoad1 (.ptr v.x (0 + 8) 11) t c = c (.bool m.cast) := fun {t} e {α} c => x_fld (h1.ext e) rfl c
  have x9 : ∀ {t : Store}, Ext s1 t → ∀ {α : Type} (c : AV → Option α), aLoad1 (.ptr v.x (0 + 9) 11) t c = c v.dv := fun {t} e {α} c => x_fld (h1.ext e) rfl c
  have E0 := Ext.refl s1
  have hcall : ∀ {t : Store}, Ext s1 t → ∀ kind : Int, ∃ t', Ext t t' ∧ ∀ {α : Type} (f : AV → Store → Option α), aCall (rn (k + 3)) (.func 46 [] [.ptr s.next 0 1]) [.int .u8 kind] t f = f (.agg [.int .u8 kind, .int .u8 (m.me : Int), .int .u8 0]) t' := fun {t} e kind => by
    obtain ⟨t', a1, a2⟩ := head_run (h1.ext e) ((e.get _ n1).trans g1) (Nat.lt_of_lt_of_le n1 e.next) kind (k + 2)
    refine ⟨t', a2, fun {α} f => ?_⟩
    simp only [aCall, List.nil_append, List.cons_append, a1, Option.bind_some]
  have hbo : ∀ (kind : Int) (r : Int) (ev : AV), ev.one = true → ∀ {α : Type} (f : List AV → Option α), aBuild [(0, 3, .agg [.int .u8 kind, .int .u8 (m.me : Int), .int .u8 0]), (9, 1, .int .u64 m.number), (10, 1, .int .u64 r), (11, 1, ev)] zero16 f = f [.int .u8 kind, .int .u8 (m.me : Int), .int .u8 0, .int .u8 0, .int .u64 0, .int .u64 0, .int .u32 0, .int .u32 0, .int .u32 0, .int .u64 m.number, .int .u64 r, ev, .nilsl, .nilsl, .nilsl, .nilsl] := fun kind r ev he {α} f => by
    cases ev <;> first | rfl | cases he
  have hbd : ∀ (kind : Int) (ev : AV), ev.one = true → ∀ {α : Type} (f : List AV → Option α), aBuild [(0, 3, .agg [.int .u8 kind, .int .u8 (m.me : Int), .int .u8 0]), (9, 1, .int .u64 m.number), (11, 1, ev)] zero16 f = f [.int .u8 kind, .int .u8 (m.me : Int), .int .u8 0, .int .u8 0, .int .u64 0, .int .u64 0, .int .u32 0, .int .u32 0, .int .u32 0, .int .u64 m.number, .int .u64 0, ev, .nilsl, .nilsl, .nilsl, .nilsl] := fun kind ev he {α} f => by
    cases ev <;> first | rfl | cases he
  have hbv : ∀ (kind : Int) (r : Int) (ev av : AV), ev.one = true → av.one = true → ∀ {α : Type} (f : List AV → Option α), aBuild [(0, 3, .agg [.int .u8 kind, .int .u8 (m.me : Int), .int .u8 0]), (9, 1, .int .u64 m.number), (10, 1, .int .u64 r), (11, 1, ev), (12, 1, av)] zero16 f = f [.int .u8 kind, .int .u8 (m.me : Int), .int .u8 0, .int .u8 0, .int .u64 0, .int .u64 0, .int .u32 0, .int .u32 0, .int .u32 0, .int .u64 m.number, .int .u64 r, ev, av, .nilsl, .nilsl, .nilsl] := fun kind r ev av he ha {α} f => by
    cases ev <;> first | (cases he; done) | (cases av <;> first | (cases ha; done) | rfl)
  have hb1 : ∀ (x : OFV) {α : Type} (f : List AV → Option α), aBuild [(0, 16, .agg (oc m.number x))] zero16 f = f (oc m.number x) := fun x {α} f => rfl
  have hz16 : [AV.int .u8 0, AV.int .u8 0, AV.int .u8 0, AV.int .u8 0, AV.int .u64 0, AV.int .u64 0, AV.int .u32 0, AV.int .u32 0, AV.int .u32 0, AV.int .u64 0, AV.int .u64 0, AV.nilsl, AV.nilsl, AV.nilsl, AV.nilsl, AV.nilsl] = zero16 := rfl
  unfold F27.p12 F27.p11 F27.p10
  unfold outX
  by_cases hd : m.decided = []
  rotate_left
  · have hq : ∀ {α : Type} (c : Bool → Option α), aEq .sl v.dv .nilsl c = c false := fun c => by
      rcases h.dec.is with ⟨_, q⟩ | ⟨id, ro, q, _⟩
      · exact absurd q hd
      · rw [q]; rfl
    simp only [ldc E0, nilp_p, bnd, guard_tt, guard_ff, guard_tf, guard_ft, pick_t, pick_f, if_t, if_f, add_i, sub_i, lss_i, leq_i, gtr_i, geq_i, eql_i, neq_i, min_i, max_i, conv_i, len_sl, len_nil, not_b, cells_agg, new_s, fld_p, nil_p, x9 E0, hq, Bool.not_false]
    unfold F27.p9 F27.p7 F27.p6
    obtain ⟨t1, a1, a2⟩ := hcall E0 8
    obtain ⟨w, t2, b1, b2, b3⟩ := clone_runs (h1.dec.is.ext a1) (by have := h.dec.len; omega) (k + 2)
    have b1' : rn (k + 3) 32 [v.dv] t1 = some (w, t2) := b1
    have rw1 := own_rm b2 (fun y hy => Nat.lt_of_lt_of_le (hM1 y hy) a1.next) h.dec.wf h.dec.len
    have E2 := a1.trans b3
    simp only [if_t, bnd, guard_tt, guard_ff, guard_tf, guard_ft, pick_t, pick_f, if_t, if_f, add_i, sub_i, lss_i, leq_i, gtr_i, geq_i, eql_i, neq_i, min_i, max_i, conv_i, len_sl, len_nil, not_b, cells_agg, new_s, fld_p, nil_p, a2, ldc a1, ldc E0, nilp_p, x2 a1, x2 E0, x9 a1, x9 E0, aSame_self, b1', ldc E2, x2 E2, hz16, hbd 8 w rw1.one]
    rw [if_pos hd]
    obtain ⟨x, hx⟩ : ∃ x : OFV, x = (⟨8, m.me, 0, m.decided, []⟩, w, .nilsl) := ⟨_, rfl⟩
    have hox : [AV.int .u8 8, .int .u8 (m.me : Int), .int .u8 0, .int .u8 0, .int .u64 0, .int .u64 0, .int .u32 0, .int .u32 0, .int .u32 0, .int .u64 m.number, .int .u64 0, w, .nilsl, .nilsl, .nilsl, .nilsl] = oc m.number x := by rw [hx]; rfl
    rw [hox]
    simp only [hb1, bnd, guard_tt, guard_ff, guard_tf, guard_ft, pick_t, pick_f, if_t, if_f, add_i, sub_i, lss_i, leq_i, gtr_i, geq_i, eql_i, neq_i, min_i, max_i, conv_i, len_sl, len_nil, not_b, cells_agg, new_s, fld_p, nil_p]
    have e3 := Ext.push t2 (.cells (oc m.number x) false)
    refine ⟨_, _, [x], rfl, .inr ⟨t2.next, rfl, by have := e1.next; have := E2.next; omega, Nat.lt_succ_self _, by rw [get_push, if_pos rfl]; simp⟩, by rw [hx]; rfl, fun y hy => ?_, (e1.trans E2).trans e3⟩
    rw [List.mem_singleton.1 hy]
    have r2 : OFs t2 M x := by rw [hx]; exact ⟨rw1, IsRM.nil _ _⟩
    exact r2.ext e3
  have hdv := h.decn hd
  have hq : ∀ {α : Type} (c : Bool → Option α), aEq .sl v.dv .nilsl c = c true := fun c => by rw [hdv]; rfl
  simp only [ldc E0, nilp_p, bnd, guard_tt, guard_ff, guard_tf, guard_ft, pick_t, pick_f, if_t, if_f, add_i, sub_i, lss_i, leq_i, gtr_i, geq_i, eql_i, neq_i, min_i, max_i, conv_i, len_sl, len_nil, not_b, cells_agg, new_s, fld_p, nil_p, x9 E0, hq, Bool.not_true]
  rw [if_neg (fun q => q hd)]
  unfold F27.p9 F27.p8 F27.p5
  obtain ⟨t1, a1, a2⟩ := hcall E0 6
  obtain ⟨w, t2, b1, b2, b3⟩ := est_run (h1.ext a1).st (xc_len v m) rfl (h1.ext a1).est.is (by have := h.est.len; omega) (k + 1)
  have b1' : rn (k + 3) 25 [.ptr v.x 0 11] t1 = some (w, t2) := b1
  have rw1 := own_rm b2 (fun y hy => Nat.lt_of_lt_of_le (hM1 y hy) a1.next) h.est.wf h.est.len
  have E2 := a1.trans b3
  simp only [if_f, bnd, guard_tt, guard_ff, guard_tf, guard_ft, pick_t, pick_f, if_t, if_f, add_i, sub_i, lss_i, leq_i, gtr_i, geq_i, eql_i, neq_i, min_i, max_i, conv_i, len_sl, len_nil, not_b, cells_agg, new_s, fld_p, nil_p, a2, ldc a1, ldc E0, nilp_p, x2 a1, x2 E0, x5 a1, x5 E0, aSame_self, b1', ldc E2, x2 E2, x5 E2, hz16, hbo 6 m.round w rw1.one]
  obtain ⟨x, hx⟩ : ∃ x : OFV, x = (⟨6, m.me, m.round, m.est, []⟩, w, .nilsl) := ⟨_, rfl⟩
  have hox : [AV.int .u8 6, .int .u8 (m.me : Int), .int .u8 0, .int .u8 0, .int .u64 0, .int .u64 0, .int .u32 0, .int .u32 0, .int .u32 0, .int .u64 m.number, .int .u64 m.round, w, .nilsl, .nilsl, .nilsl, .nilsl] = oc m.number x := by rw [hx]; rfl
  rw [hox]
  simp only [hb1, bnd, guard_tt, guard_ff, guard_tf, guard_ft, pick_t, pick_f, if_t, if_f, add_i, sub_i, lss_i, leq_i, gtr_i, geq_i, eql_i, neq_i, min_i, max_i, conv_i, len_sl, len_nil, not_b, cells_agg, new_s, fld_p, nil_p]
  have e3 := Ext.push t2 (.cells (oc m.number x) false)
  have ho3 : OwnL (oc m.number) 16 (t2.push (.cells (oc m.number x) false)) (.sl t2.next 0 1 16 16) [x] t2.next := .inr ⟨t2.next, rfl, Nat.le_refl _, Nat.lt_succ_self _, by rw [get_push, if_pos rfl]; simp⟩
  have n3 : t2.next + 1 ≤ (t2.push (.cells (oc m.number x) false)).next := Nat.le_refl _
  have g3 : (t2.push (.cells (oc m.number x) false)).get t2.next = .cells ([x].map (oc m.number)).flatten false := by rw [get_push, if_pos rfl]; simp
  generalize t2.push (.cells (oc m.number x) false) = t3 at e3 ho3 n3 g3 ⊢
  have E3 := E2.trans e3
  have r2 : OFs t2 M x := by rw [hx]; exact ⟨rw1, IsRM.nil _ _⟩
  have r3 : OFs t3 M x := r2.ext e3
  have hsn : s.next ≤ t2.next := Nat.le_trans e1.next E2.next
  unfold F27.p4 F27.p3
  simp only [ldc E3, bnd, guard_tt, guard_ff, guard_tf, guard_ft, pick_t, pick_f, if_t, if_f, add_i, sub_i, lss_i, leq_i, gtr_i, geq_i, eql_i, neq_i, min_i, max_i, conv_i, len_sl, len_nil, not_b, cells_agg, new_s, fld_p, nil_p, x8 E3]
  cases hc : m.cast
  · unfold F27.p2 F27.p0
    simp only [bnd, guard_tt, guard_ff, guard_tf, guard_ft, pick_t, pick_f, if_t, if_f, add_i, sub_i, lss_i, leq_i, gtr_i, geq_i, eql_i, neq_i, min_i, max_i, conv_i, len_sl, len_nil, not_b, cells_agg, new_s, fld_p, nil_p, Bool.false_eq_true, if_false]
    refine ⟨t3, _, [x], rfl, ho3.mono hsn, by rw [hx]; rfl, fun y hy => ?_, e1.trans E3⟩
    rw [List.mem_singleton.1 hy]
    exact r3
  simp only [bnd, guard_tt, guard_ff, guard_tf, guard_ft, pick_t, pick_f, if_t, if_f, add_i, sub_i, lss_i, leq_i, gtr_i, geq_i, eql_i, neq_i, min_i, max_i, conv_i, len_sl, len_nil, not_b, cells_agg, new_s, fld_p, nil_p, if_true]
  unfold F27.p1 F27.p0
  obtain ⟨t4, c1, c2⟩ := hcall E3 7
  have E4 := E3.trans c1
  obtain ⟨w2, t5, d1, d2, d3⟩ := est_run (h1.ext E4).st (xc_len v m) rfl (h1.ext E4).est.is (by have := h.est.len; omega) (k + 1)
  have d1' : rn (k + 3) 25 [.ptr v.x 0 11] t4 = some (w2, t5) := d1
  have E5 := E4.trans d3
  have rw2 := own_rm d2 (fun y hy => Nat.lt_of_lt_of_le (hM1 y hy) E4.next) h.est.wf h.est.len
  obtain ⟨w3, t6, f1, f2, f3⟩ := clone_runs (h1.ext E5).vote.is (by have := h.vote.len; omega) (k + 2)
  have f1' : rn (k + 3) 32 [v.vv] t5 = some (w3, t6) := f1
  have E6 := E5.trans f3
  have rw3 := own_rm f2 (fun y hy => Nat.lt_of_lt_of_le (hM1 y hy) E5.next) h.vote.wf h.vote.len
  obtain ⟨y, hy⟩ : ∃ y : OFV, y = (⟨7, m.me, m.round, m.est, m.vote⟩, w2, w3) := ⟨_, rfl⟩
  have hoy : [AV.int .u8 7, .int .u8 (m.me : Int), .int .u8 0, .int .u8 0, .int .u64 0, .int .u64 0, .int .u32 0, .int .u32 0, .int .u32 0, .int .u64 m.number, .int .u64 m.round, w2, w3, .nilsl, .nilsl, .nilsl] = oc m.number y := by rw [hy]; rfl
  have e36 := (c1.trans d3).trans f3
  have g6 : t6.get t2.next = .cells ([x].map (oc m.number)).flatten false := (e36.get _ (by have := e3.next; omega)).trans g3
  obtain ⟨t7, p1, p2, p3⟩ := app_one (c := oc m.number) (es := 16) (bytes := 184) (n := 1) (oc_len _) (by decide) (by decide) (l := [x]) rfl g6 (by have := e36.next; omega) y (by decide)
  have r6x : OFs t6 M x := r3.ext e36
  have r6y : OFs t6 M y := by rw [hy]; exact ⟨rw2.ext f3, rw3⟩
  have hne : ∀ y' ∈ [x, y], (∀ i b c d e, y'.2.1 = .sl i b c d e → i ≠ t2.next) ∧ (∀ i b c d e, y'.2.2 = .sl i b c d e → i ≠ t2.next) := fun y' hy' => by
    rcases List.mem_cons.1 hy' with rfl | hy'
    · rw [hx]
      exact ⟨fun i b c d e q => Nat.ne_of_lt (rw1.id_lt q), fun i b c d e q => by cases q⟩
    · rw [List.mem_singleton.1 hy', hy]
      exact ⟨fun i b c d e q => Nat.ne_of_gt (own_gt d2 (Nat.lt_of_lt_of_le n3 c1.next) q), fun i b c d e q => Nat.ne_of_gt (own_gt f2 (Nat.lt_of_lt_of_le n3 (c1.trans d3).next) q)⟩
  have hF : ∀ y' ∈ [x, y], OFs t7 M y' := fun y' hy' => by
    have q : OFs t6 M y' := by
      rcases List.mem_cons.1 hy' with rfl | hy'
      · exact r6x
      · rw [List.mem_singleton.1 hy']; exact r6y
    exact q.frS1 p3 (hne y' hy').1 (hne y' hy').2
  simp only [c2, bnd, guard_tt, guard_ff, guard_tf, guard_ft, pick_t, pick_f, if_t, if_f, add_i, sub_i, lss_i, leq_i, gtr_i, geq_i, eql_i, neq_i, min_i, max_i, conv_i, len_sl, len_nil, not_b, cells_agg, new_s, fld_p, nil_p, ldc E4, ldc E3, nilp_p, x2 E4, x2 E3, x5 E4, x5 E3, aSame_self, d1', ldc E5, x2 E5, x5 E5, x7 E5, x7 E4, x7 E3, f1', ldc E6, x2 E6, x5 E6, hz16, hbv 7 m.round w2 w3 rw2.one rw3.one, hoy, hb1, p1]
  refine ⟨_, _, [x, y], rfl, .inr ⟨t2.next, rfl, by have := e1.next; omega, by have := e36.next; have := p3.next; omega, p2⟩, by rw [hx, hy]; rfl, hF, ⟨Nat.le_trans (e1.trans (E3.trans e36)).next p3.next, fun l hl => ?_⟩⟩
  rw [p3.get l (by have := (e1.trans (E3.trans e36)).next; omega) (by simp only [List.mem_singleton]; omega)]
  exact (e1.trans (E3.trans e36)).get l hl
end Go.Proofs.Ytmaidlndikcgkaa.Sim
