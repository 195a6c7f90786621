/- Layer 13: the document's chunks of a payload. No condition. -/
import Derived.Test.YtmkdpenpfkmfpaaDoorB13T
import Derived.Test.YtmkdpenpfkmfpaaDoorFunPlays
namespace Go.Proofs.YtmkdpenpfkmfpaaDoor.Sim
set_option linter.unusedSimpArgs false
set_option linter.unusedVariables false
variable {s s' : Store}

theorem putAll_full : ∀ (vs cs pre : List AV), vs.length = cs.length → putAll (pre ++ cs) pre.length vs = pre ++ vs
  | [], cs, pre, h => by
    have : cs = [] := List.length_eq_zero_iff.1 h.symm
    rw [this]; rfl
  | v :: vs, [], pre, h => by simp at h
  | v :: vs, c :: cs, pre, h => by
    have := putAll_full vs cs (pre ++ [v]) (by simpa using h)
    simp only [putAll]
    rw [List.set_append_right _ _ (Nat.le_refl _), Nat.sub_self, List.set_cons_zero]
    simpa using this
theorem st_all {id n : Nat} {cs vs : List AV} (h : s.get id = .cells cs false) (hc : cs.length = n) (hv : vs.length = n) {α : Type} (f : Store → Option α) : aStore n (.ptr id 0 n) (.agg vs) s f = f (s.set id (.cells vs false)) := by
  have := putAll_full vs cs [] (by omega)
  simp only [List.nil_append, List.length_nil] at this
  simp only [aStore, aCells, aOwn, h, hc, if_true]
  rw [if_pos (by omega), this]

theorem load1_of {q1 v : AV} (hq : ∀ {α : Type} (f : AV → Option α), aLoadN 1 q1 s f = f (.agg [v])) {α : Type} (f : AV → Option α) : aLoad1 q1 s f = f v := by
  cases q1 with
  | ptr l off ep =>
    have := hq (α := AV) some
    simp only [aLoadN, aRow] at this
    simp only [aLoad1, aRow]
    cases hg : s.get l with
    | cells xs ro =>
      simp only [hg] at this
      by_cases hx : xs.length = ep
      · simp only [hx, if_true] at this
        by_cases ho : off + 1 ≤ ep
        · simp only [ho, if_true] at this
          injection this with this
          injection this with this
          have hlt : off < xs.length := by omega
          have h9 : (List.take 1 (List.drop off xs))[0]? = some v := by rw [this]; rfl
          rw [List.getElem?_take, if_pos (by omega), List.getElem?_drop, Nat.add_zero] at h9
          simp only [hx, if_true, h9]
        · simp [ho] at this
      · simp [hx] at this
    | _ => simp [hg] at this
  | _ => have := hq (α := AV) some; simp [aLoadN] at this
theorem may3_run (x : Int × Int) (h1 : 0 ≤ x.1 ∧ x.1 < 256) (k : Nat) (s : Store) : ∃ s', rn (k + 1) 24 [.agg [.int .u8 x.1, .int .u64 x.2], .int .i64 64] s = some (.bool (idOk x), s') ∧ Ext s s' := by
  rw [unisonref03_May.eq]
  unfold unisonref03_May.f unisonref03_May.p0
  have e := Ext.push s (.cells [.int .u8 x.1, .int .u64 x.2] false)
  have hf : (s.push (.cells [.int .u8 x.1, .int .u64 x.2] false)).get s.next = .cells [.int .u8 x.1, .int .u64 x.2] false := by rw [get_push, if_pos rfl]
  have l0 : ∀ {α : Type} (c : AV → Option α), aLoad1 (.ptr s.next (0 + 0) 2) (s.push (.cells [.int .u8 x.1, .int .u64 x.2] false)) c = c (.int .u8 x.1) := fun c => g_ld hf rfl rfl c
  have l1 : ∀ {α : Type} (c : AV → Option α), aLoad1 (.ptr s.next (0 + 1) 2) (s.push (.cells [.int .u8 x.1, .int .u64 x.2] false)) c = c (.int .u64 x.2) := fun c => g_ld hf rfl rfl c
  have hw : IntKind.i64.wrap x.1 = x.1 := w_i64 (by omega) (by omega)
  have hlen : [AV.int .u8 x.1, AV.int .u64 x.2].length = 2 := rfl
  simp only [cells_agg, new_s, hlen, bnd, guard_tt, guard_ff, guard_tf, guard_ft, pick_t, pick_f, if_t, if_f, add_i, sub_i, lss_i, leq_i, gtr_i, geq_i, eql_i, neq_i, min_i, max_i, conv_i, len_sl, len_nil, not_b, cells_agg, new_s, fld_p, nil_p, l0, hw]
  unfold idOk
  by_cases c1 : x.1 < 64
  · simp only [decide_eq_true c1, bnd, guard_tt, guard_ff, guard_tf, guard_ft, pick_t, pick_f, if_t, if_f, add_i, sub_i, lss_i, leq_i, gtr_i, geq_i, eql_i, neq_i, min_i, max_i, conv_i, len_sl, len_nil, not_b, cells_agg, new_s, fld_p, nil_p, l0, l1, Bool.true_and]
    by_cases c2 : 1 ≤ x.2
    · simp only [decide_eq_true (show x.2 > 0 by omega), decide_eq_true c2, bnd, guard_tt, guard_ff, guard_tf, guard_ft, pick_t, pick_f, if_t, if_f, add_i, sub_i, lss_i, leq_i, gtr_i, geq_i, eql_i, neq_i, min_i, max_i, conv_i, len_sl, len_nil, not_b, cells_agg, new_s, fld_p, nil_p, l1, Bool.true_and]
      exact ⟨_, rfl, e⟩
    · simp only [decide_eq_false (show ¬ x.2 > 0 by omega), decide_eq_false c2, bnd, guard_tt, guard_ff, guard_tf, guard_ft, pick_t, pick_f, if_t, if_f, add_i, sub_i, lss_i, leq_i, gtr_i, geq_i, eql_i, neq_i, min_i, max_i, conv_i, len_sl, len_nil, not_b, cells_agg, new_s, fld_p, nil_p, guard_skip, Bool.false_and]
      exact ⟨_, rfl, e⟩
  · simp only [decide_eq_false c1, bnd, guard_tt, guard_ff, guard_tf, guard_ft, pick_t, pick_f, if_t, if_f, add_i, sub_i, lss_i, leq_i, gtr_i, geq_i, eql_i, neq_i, min_i, max_i, conv_i, len_sl, len_nil, not_b, cells_agg, new_s, fld_p, nil_p, guard_skip, Bool.false_and]
    exact ⟨_, rfl, e⟩

theorem countQ_more {sz k : Nat} (h1 : 1 ≤ k) (h : k < sz) : countQ sz k = countQ (sz - k) k + 1 := by
  unfold countQ
  have h2 : sz + k - 1 = (sz - k + k - 1) + k := by omega
  rw [h2, Nat.add_div_right _ (by omega)]
  have h3 : 1 ≤ (sz - k + k - 1) / k := (Nat.le_div_iff_mul_le (by omega)).2 (by omega)
  omega
theorem countQ_last {sz k : Nat} (h1 : 1 ≤ k) (h : sz ≤ k) : countQ sz k = 1 := by
  unfold countQ
  have h2 : (sz + k - 1) / k < 2 := (Nat.div_lt_iff_lt_mul (by omega)).2 (by omega)
  omega
theorem count12_loop {k : Nat} (h1 : 1 ≤ k) (fu : Nat) (s : Store) : ∀ (m sz c : Nat), sz < m → c + sz ≤ 1000000000 →
    unisonref12_Count.l0 fu m (.int .i64 (sz : Int)) (.int .i64 (k : Int)) (.int .i64 (c : Int)) s = some (.int .i64 ((c + countQ sz k - 1 : Nat) : Int), s)
  | 0, sz, c, hm, _ => by omega
  | m + 1, sz, c, hm, hb => by
    have hs : unisonref12_Count.l0 fu (m + 1) = fun x0 x1 x5 s => unisonref12_Count.p2 fu (unisonref12_Count.l0 fu m) x0 x1 x5 s := rfl
    rw [hs]
    clear hs
    simp only
    unfold unisonref12_Count.p2 unisonref12_Count.p1 unisonref12_Count.p0
    by_cases h : k < sz
    · have w1 : IntKind.i64.wrap ((sz : Int) - (k : Int)) = ((sz - k : Nat) : Int) := by rw [w_i64 (by omega) (by omega)]; omega
      have w2 : IntKind.i64.wrap ((c : Int) + 1) = ((c + 1 : Nat) : Int) := by rw [w_i64 (by omega) (by omega)]; omega
      simp only [bnd, guard_tt, guard_ff, guard_tf, guard_ft, pick_t, pick_f, if_t, if_f, add_i, sub_i, lss_i, leq_i, gtr_i, geq_i, eql_i, neq_i, min_i, max_i, conv_i, len_sl, len_nil, not_b, cells_agg, new_s, fld_p, nil_p, decide_eq_true (show (sz : Int) > (k : Int) by omega), w1, w2]
      rw [count12_loop h1 fu s m (sz - k) (c + 1) (by omega) (by omega), countQ_more h1 h]
      have h5 : c + 1 + countQ (sz - k) k - 1 = c + (countQ (sz - k) k + 1) - 1 := by omega
      rw [h5]
    · simp only [bnd, guard_tt, guard_ff, guard_tf, guard_ft, pick_t, pick_f, if_t, if_f, add_i, sub_i, lss_i, leq_i, gtr_i, geq_i, eql_i, neq_i, min_i, max_i, conv_i, len_sl, len_nil, not_b, cells_agg, new_s, fld_p, nil_p, decide_eq_false (show ¬ (sz : Int) > (k : Int) by omega)]
      rw [countQ_last h1 (by omega)]
      rfl
theorem count12_run {sz k : Nat} (h0 : sz ≤ 1048576) (h1 : 1 ≤ k) (h2 : k ≤ 65536) (fu : Nat) (hf : sz < fu) (s : Store) : rn (fu + 1) 43 [.int .i64 (sz : Int), .int .i64 (k : Int)] s = some (.int .i64 (countQ sz k : Nat), s) := by
  rw [unisonref12_Count.eq]
  unfold unisonref12_Count.f unisonref12_Count.p5 unisonref12_Count.p4 unisonref12_Count.p3
  have := count12_loop h1 fu s fu sz 1 hf (by omega)
  rw [show 1 + countQ sz k - 1 = countQ sz k by omega] at this
  simp only [bnd, guard_tt, guard_ff, guard_tf, guard_ft, pick_t, pick_f, if_t, if_f, add_i, sub_i, lss_i, leq_i, gtr_i, geq_i, eql_i, neq_i, min_i, max_i, conv_i, len_sl, len_nil, not_b, cells_agg, new_s, fld_p, nil_p, decide_eq_false (show ¬ (sz : Int) < 0 by omega), decide_eq_false (show ¬ (sz : Int) > 1048576 by omega), decide_eq_false (show ¬ (k : Int) < 1 by omega), decide_eq_false (show ¬ (k : Int) > 65536 by omega)]
  exact this

theorem sliceLoV {v : AV} {kk : IntKind} {xs : List Int} (h : IsV s v kk xs) {a : Nat} (ha : a ≤ xs.length) : ∃ v', IsV s v' kk (xs.drop a) ∧ (∀ {α : Type} (ka : IntKind) (f : AV → Option α), aSliceSl 1 v (some (.int ka (a : Int))) none f = f v') ∧ ∀ a b c d f, v' = .sl a b c d f → ∃ b c d f, v = .sl a b c d f := by
  rcases h with ⟨rfl, rfl⟩ | ⟨l, off, ys, ro, rfl, h2, h3, h4, h5⟩
  · have h0 : a = 0 := by simpa using ha
    subst h0
    refine ⟨.nilsl, .inl ⟨rfl, rfl⟩, fun ka f => ?_, fun a b c d f q => by cases q⟩
    simp [aSliceSl, aNum]
  · refine ⟨.sl l (off + a) (xs.length - a) 1 ys.length, .inr ⟨l, off + a, ys, ro, by rw [List.length_drop], h2, h3, by rw [List.length_drop]; omega, ?_⟩, fun ka f => ?_, fun a b c d f q => by cases q; exact ⟨_, _, _, _, rfl⟩⟩
    · rw [List.length_drop]
      conv => rhs; rw [← h5]
      rw [List.drop_take, List.drop_drop]
    · simp only [aSliceSl, aNum]
      rw [if_pos ⟨trivial, by omega, by omega, by omega⟩]
      simp
theorem sliceHiV {v : AV} {kk : IntKind} {xs : List Int} (h : IsV s v kk xs) {b : Nat} (hb : b ≤ xs.length) : ∃ v', IsV s v' kk (xs.take b) ∧ (∀ {α : Type} (ka : IntKind) (f : AV → Option α), aSliceSl 1 v none (some (.int ka (b : Int))) f = f v') ∧ ∀ a b c d f, v' = .sl a b c d f → ∃ b c d f, v = .sl a b c d f := by
  rcases h with ⟨rfl, rfl⟩ | ⟨l, off, ys, ro, rfl, h2, h3, h4, h5⟩
  · have h0 : b = 0 := by simpa using hb
    subst h0
    refine ⟨.nilsl, .inl ⟨rfl, rfl⟩, fun ka f => ?_, fun a b c d f q => by cases q⟩
    simp [aSliceSl, aNum]
  · refine ⟨.sl l off b 1 ys.length, .inr ⟨l, off, ys, ro, by rw [List.length_take, Nat.min_eq_left hb], h2, h3, by rw [List.length_take]; omega, ?_⟩, fun ka f => ?_, fun a b c d f q => by cases q; exact ⟨_, _, _, _, rfl⟩⟩
    · rw [List.length_take, Nat.min_eq_left hb]
      conv => rhs; rw [← h5]
      rw [List.take_take, Nat.min_eq_left hb]
    · simp only [aSliceSl, aNum]
      rw [if_pos ⟨trivial, by omega, by omega, by omega⟩]
      simp

theorem cutAt_drop {p : List Int} {k i : Nat} : cutAt (p.drop k) k i = cutAt p k (i + 1) := by
  unfold cutAt
  rw [List.drop_drop, Nat.succ_mul, Nat.add_comm]
theorem one_build {v : AV} {kk : IntKind} {xs : List Int} (h : IsV s v kk xs) {α : Type} (f : List AV → Option α) : aBuild [(0, 1, v)] [AV.nilsl] f = f [v] := by
  rcases h with ⟨rfl, rfl⟩ | ⟨l, off, ys, ro, rfl, h2, h3, h4, h5⟩ <;> rfl
end Go.Proofs.YtmkdpenpfkmfpaaDoor.Sim
