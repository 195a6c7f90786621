/- Layer 13: the document's Put: a chunk is laid. No condition. -/
import Derived.Test.YtmkdpenpfkmfpaaDoorB13Pf
namespace Go.Proofs.YtmkdpenpfkmfpaaDoor.Sim
set_option linter.unusedSimpArgs false
set_option linter.unusedVariables false
variable {s s' : Store}

theorem flat_bc (hs : List Bool) : (hs.map bc).flatten = hs.map .bool := by
  induction hs with
  | nil => rfl
  | cons b l ih => rw [List.map_cons, List.flatten_cons, ih]; rfl
theorem flat_sc (cs : List (List Int)) : (cs.map sc).flatten = cs.map fun c => .str (strOf c) := by
  induction cs with
  | nil => rfl
  | cons b l ih => rw [List.map_cons, List.flatten_cons, ih]; rfl
theorem flat_set {β : Type} {c : β → List AV} {es : Nat} (hc : ∀ x, (c x).length = es) : ∀ (l : List β) (i : Nat) (e : β), i < l.length → putAll (l.map c).flatten (i * es) (c e) = ((l.set i e).map c).flatten := by
  intro l i e hi
  apply List.ext_getElem?
  intro j
  have hl := flatL_len hc l
  have hl2 := flatL_len hc (l.set i e)
  rw [List.length_set] at hl2
  have hle : i * es + es ≤ l.length * es := by rw [← Nat.succ_mul]; exact Nat.mul_le_mul_right _ hi
  rw [putAll_at _ _ _ (by rw [hc, hl]; exact hle), hc]
  have h1 : (l.map c).flatten = ((l.take i).map c).flatten ++ (c l[i] ++ ((l.drop (i + 1)).map c).flatten) := by
    conv => lhs; rw [← List.take_append_drop i l, List.map_append, List.flatten_append, List.drop_eq_getElem_cons hi, List.map_cons, List.flatten_cons]
  have h2 : ((l.set i e).map c).flatten = ((l.take i).map c).flatten ++ (c e ++ ((l.drop (i + 1)).map c).flatten) := by
    rw [List.set_eq_take_append_cons_drop, if_pos hi, List.map_append, List.flatten_append, List.map_cons, List.flatten_cons]
  have h3 := flatL_len hc (l.take i)
  rw [List.length_take, Nat.min_eq_left (by omega)] at h3
  rw [h1, h2, ← List.append_assoc, ← List.append_assoc, three_at, three_at, h3, hc, hc]
  by_cases q1 : j < i * es
  · rw [if_pos q1, if_pos q1, if_pos q1]
  · rw [if_neg q1, if_neg q1, if_neg q1]
    by_cases q2 : j - i * es < es
    · rw [if_pos q2, if_pos q2]
    · rw [if_neg q2, if_neg q2, if_neg q2]

/-- The document's gatherer while a frame is put: its row, the frame's, and the one for what comes back. -/
structure PW (Q : Nat → Prop) (s0 t : Store) (x2 x3 x4 : Nat) (f : Frm) (lv : AV) (a : AG) (L : List PE) : Prop where
  ext : Ext s0 t
  m : t.get x2 = .cells (mcells a lv) false
  fr : t.get x3 = .cells f.cells false
  z : t.get x4 = .cells zero12 false
  rg : RG t lv a L
  lo : s0.next ≤ x2 ∧ x2 < x3 ∧ x3 < x4 ∧ x4 < t.next
  offl : ∀ i b c d e, lv = .sl i b c d e → i < x2 ∨ x4 < i
  offe : ∀ e ∈ L, (∀ i b c d g, e.hv = .sl i b c d g → i < x2 ∨ x4 < i) ∧ ∀ i b c d g, e.cv = .sl i b c d g → i < x2 ∨ x4 < i
  off : Off Q lv L
  new : ∀ i, s0.next ≤ i → Q i
theorem IsL.frS {β : Type} {c : β → List AV} {es : Nat} {v : AV} {l : List β} {S : List Nat} (h : IsL c es s v l) (e : FrS S s s') (hv : ∀ i b d f g, v = .sl i b d f g → i ∉ S) : IsL c es s' v l := by
  rcases h with h | ⟨id, ro, h1, h2, h3⟩
  · exact .inl h
  · exact .inr ⟨id, ro, h1, Nat.lt_of_lt_of_le h2 e.next, (e.get id h2 (hv _ _ _ _ _ h1)).trans h3⟩
theorem RG.frS {lv : AV} {a : AG} {L : List PE} {S : List Nat} (h : RG s lv a L) (e : FrS S s s') (hv : ∀ i b d f g, lv = .sl i b d f g → i ∉ S) (he : ∀ x ∈ L, (∀ i b d f g, x.hv = .sl i b d f g → i ∉ S) ∧ ∀ i b d f g, x.cv = .sl i b d f g → i ∉ S) : RG s' lv a L :=
  ⟨h.l.frS e hv, h.eq, fun x hx => by
    obtain ⟨hs, cs, q⟩ := h.each x hx
    exact ⟨hs, cs, q.h.frS e (he x hx).1, q.c.frS e (he x hx).2, q.good⟩, h.cnt⟩
theorem RG.same {lv : AV} {a a' : AG} {L : List PE} (h : RG s lv a L) (hl : a'.L = a.L) (hc : a'.chunk = a.chunk) (hn : a'.counts.length = 6) : RG s lv a' L := ⟨h.l, by rw [hl]; exact h.eq, by rw [hc]; exact h.each, hn⟩

/-- The end: it is counted, and comes back. -/
theorem tail_run {s0 t : Store} {x2 x4 : Nat} {lv : AV} {a : AG} {L : List PE} (e : Ext s0 t) (hm : t.get x2 = .cells (mcells a lv) false) (hz : t.get x4 = .cells zero12 false) (hrg : RG t lv a L) (hlo : s0.next ≤ x2 ∧ x2 < x4 ∧ x4 < t.next)
    (ho : ∀ i b c d e, lv = .sl i b c d e → i ∉ [x2, x4]) (hoe : ∀ x ∈ L, (∀ i b d f g, x.hv = .sl i b d f g → i ∉ [x2, x4]) ∧ ∀ i b d f g, x.cv = .sl i b d f g → i ∉ [x2, x4]) {w : Nat} {wi : Int} (hw : w < 6) (hwi : (w : Int) = wi) (str : AV) :
    ∃ s', (aFieldAddr 6 (.ptr x2 0 12) fun v1 => aIndexArr 6 1 v1 (AV.int .i64 wi) fun v2 => aLoad1 v2 t fun v3 => aBin .add v3 (AV.int .i64 1) fun v4 => aFieldAddr 6 (.ptr x2 0 12) fun v5 => aIndexArr 6 1 v5 (AV.int .i64 wi) fun v6 => aStore 1 v6 v4 t fun s7 => aLoadN 12 (.ptr x2 0 12) s7 fun v8 => aStore 12 (.ptr x4 0 12) v8 s7 fun s9 => aLoadN 12 (.ptr x4 0 12) s9 fun v10 => some (AV.tuple [v10, str, (AV.int .u8 wi)], s9)) = some (.tuple [.agg (mcells { a with counts := countC a.counts w } lv), str, .int .u8 wi], s') ∧
      RG s' lv { a with counts := countC a.counts w } L ∧ Ext s0 s' := by
  subst hwi
  have hcn := hrg.cnt
  have hml := mcells_len (lv := lv) hcn
  have hv : (mcells a lv)[0 + 6 + (w : Int).toNat * 1]? = some (.int .i64 (a.counts.getD w 0)) := by
    rw [Int.toNat_natCast, Nat.mul_one, Nat.zero_add, mcells, List.getElem?_append_right (by simp), List.getElem?_map]
    have : a.counts[6 + w - 6]? = some (a.counts.getD w 0) := by
      rw [show 6 + w - 6 = w by omega, List.getD_eq_getElem?_getD, List.getElem?_eq_getElem (by rw [hcn]; exact hw)]; rfl
    show Option.map _ (a.counts[6 + w - 6]?) = _
    rw [this]; rfl
  have hst := fun {α : Type} (f : Store → Option α) => g_st (j := 0 + 6 + (w : Int).toNat * 1) (v := .int .i64 (IntKind.i64.wrap (a.counts.getD w 0 + 1))) hm hml (by rw [Int.toNat_natCast]; omega) rfl f
  have he : (mcells a lv).set (0 + 6 + (w : Int).toNat * 1) (.int .i64 (IntKind.i64.wrap (a.counts.getD w 0 + 1))) = mcells { a with counts := countC a.counts w } lv := by
    rw [Int.toNat_natCast, Nat.mul_one, Nat.zero_add]
    unfold mcells countC
    rw [List.set_append_right _ _ (by simp)]
    simp [List.map_set]
  have hcn' : (countC a.counts w).length = 6 := by rw [countC_len]; exact hcn
  have h7 := fun {α : Type} (f : AV → Option α) => m_all (s := t.set x2 (.cells (mcells { a with counts := countC a.counts w } lv) false)) (x := x2) (a := { a with counts := countC a.counts w }) (lv := lv) (ro := false) (by rw [get_set, if_pos rfl]) hcn' f
  have hz7 : (t.set x2 (.cells (mcells { a with counts := countC a.counts w } lv) false)).get x4 = .cells zero12 false := by rw [get_set, if_neg (by omega)]; exact hz
  have hst4 := fun {α : Type} (f : Store → Option α) => st12 hz7 zero12_len (vs := mcells { a with counts := countC a.counts w } lv) (mcells_len hcn') f
  have h9 := fun {α : Type} (f : AV → Option α) => m_all (s := (t.set x2 (.cells (mcells { a with counts := countC a.counts w } lv) false)).set x4 (.cells (mcells { a with counts := countC a.counts w } lv) false)) (x := x4) (a := { a with counts := countC a.counts w }) (lv := lv) (ro := false) (by rw [get_set, if_pos rfl]) hcn' f
  simp only [bnd, guard_tt, guard_ff, guard_tf, guard_ft, pick_t, pick_f, if_t, if_f, add_i, sub_i, lss_i, leq_i, gtr_i, geq_i, eql_i, neq_i, min_i, max_i, conv_i, len_sl, len_nil, not_b, cells_agg, new_s, fld_p, nil_p, index_arr (show (0 : Int) ≤ (w : Int) by omega) (show (w : Int) < (6 : Nat) by omega), g_ld hm hml hv, hst, he, h7, hst4, h9]
  have hfr : FrS [x2, x4] t ((t.set x2 (.cells (mcells { a with counts := countC a.counts w } lv) false)).set x4 (.cells (mcells { a with counts := countC a.counts w } lv) false)) := ⟨Nat.le_refl _, fun l hl hn => by
    simp only [List.mem_cons, List.not_mem_nil, or_false, not_or] at hn
    rw [get_set, if_neg hn.2, get_set, if_neg hn.1]⟩
  refine ⟨_, rfl, (hrg.frS hfr ho hoe).same rfl rfl hcn', ⟨e.next, fun l hl => ?_⟩⟩
  rw [get_set, if_neg (by omega), get_set, if_neg (by omega)]
  exact e.get l hl

/-- All chunks behind one another. -/
theorem cat_loop {x2 x4 x10 : Nat} {e : PE} {cs : List (List Int)} {x7 : AV} (hx : s.get x10 = .cells (pcl e) false) (hc : IsL sc 1 s e.cv cs) (hl : cs.length ≤ 1048576) (hsum : cs.flatten.length ≤ 1048576) (k : Nat) : ∀ (m i : Nat), i ≤ cs.length → cs.length - i < m →
    unisonref13_G_Put.l0 k m (.ptr x2 0 12) (.ptr x4 0 12) x7 (.ptr x10 0 5) (.str (strOf (cs.take i).flatten)) (.int .i64 (cs.length : Nat)) (.int .i64 (i : Int)) s = unisonref13_G_Put.p1 k (.ptr x2 0 12) (.ptr x4 0 12) x7 (.str (strOf cs.flatten)) s
  | 0, i, hi, hm => by omega
  | m + 1, i, hi, hm => by
    have hs' : unisonref13_G_Put.l0 k (m + 1) = fun x2 x4 x7 x10 x11 x192 x193 s => unisonref13_G_Put.p5 k (unisonref13_G_Put.l0 k m) x2 x4 x7 x10 x11 x192 x193 s := rfl
    rw [hs']
    clear hs'
    simp only
    unfold unisonref13_G_Put.p5 unisonref13_G_Put.p4
    by_cases hlt : i < cs.length
    · unfold unisonref13_G_Put.p3 unisonref13_G_Put.p2
      have ldc : ∀ {α : Type} (f : AV → Option α), aLoad1 (.ptr x10 (0 + 4) 5) s f = f e.cv := fun f => g_ld hx rfl rfl f
      obtain ⟨p, p1, p2⟩ := elemL (c := sc) (es := 1) (fun _ => rfl) hc hlt
      have ld1 := fun {α : Type} (f : AV → Option α) => load1_of (v := .str (strOf cs[i])) p2 f
      have hw : IntKind.i64.wrap ((i : Int) + 1) = ((i + 1 : Nat) : Int) := by rw [w_i64 (by omega) (by omega)]; omega
      have htk : (cs.take (i + 1)).flatten = (cs.take i).flatten ++ cs[i] := by
        rw [List.take_succ_eq_append_getElem hlt, List.flatten_append]; simp
      have hle : (cs.take (i + 1)).flatten.length ≤ 1048576 := by
        have h1 : cs.flatten = (cs.take (i + 1)).flatten ++ (cs.drop (i + 1)).flatten := by rw [← List.flatten_append, List.take_append_drop]
        rw [h1, List.length_append] at hsum
        omega
      rw [htk, List.length_append] at hle
      have ha := fun {α : Type} (f : AV → Option α) => add_str (a := (cs.take i).flatten) (b := cs[i]) (by omega) f
      simp only [bnd, guard_tt, guard_ff, guard_tf, guard_ft, pick_t, pick_f, if_t, if_f, add_i, sub_i, lss_i, leq_i, gtr_i, geq_i, eql_i, neq_i, min_i, max_i, conv_i, len_sl, len_nil, not_b, cells_agg, new_s, fld_p, nil_p, decide_eq_true (show (i : Int) < ((cs.length : Nat) : Int) by omega), ldc, p1, ld1, ha, hw]
      rw [← htk]
      exact cat_loop hx hc hl hsum k m (i + 1) (by omega) (by omega)
    · simp only [bnd, guard_tt, guard_ff, guard_tf, guard_ft, pick_t, pick_f, if_t, if_f, add_i, sub_i, lss_i, leq_i, gtr_i, geq_i, eql_i, neq_i, min_i, max_i, conv_i, len_sl, len_nil, not_b, cells_agg, new_s, fld_p, nil_p, decide_eq_false (show ¬ (i : Int) < ((cs.length : Nat) : Int) by omega)]
      rw [List.take_of_length_le (by omega)]
end Go.Proofs.YtmkdpenpfkmfpaaDoor.Sim
