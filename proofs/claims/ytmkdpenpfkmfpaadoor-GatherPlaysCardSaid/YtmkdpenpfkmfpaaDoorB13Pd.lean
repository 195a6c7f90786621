/- Layer 13: the document's gatherer: New, First, IDs, without, Drop, full, Right. No condition. -/
import Derived.Test.YtmkdpenpfkmfpaaDoorB13Pc
namespace Go.Proofs.YtmkdpenpfkmfpaaDoor.Sim
set_option linter.unusedSimpArgs false
set_option linter.unusedVariables false
variable {s s' : Store}

theorem st12 {x : Nat} {cs vs : List AV} (h : s.get x = .cells cs false) (hc : cs.length = 12) (hv : vs.length = 12) {α : Type} (f : Store → Option α) : aStore 12 (.ptr x 0 12) (.agg vs) s f = f (s.set x (.cells vs false)) := st_all h hc hv f
theorem rin_run (a lo hi : Int) (hlh : lo ≤ hi) (k : Nat) (s : Store) : rn (k + 1) 23 [.int .i64 a, .int .i64 lo, .int .i64 hi] s = some (.int .i64 (max lo (min a hi)), s) := by
  rw [unisonref13_in.eq]
  unfold unisonref13_in.f unisonref13_in.p0
  by_cases h1 : a < lo
  · simp only [bnd, guard_tt, guard_ff, guard_tf, guard_ft, pick_t, pick_f, if_t, if_f, add_i, sub_i, lss_i, leq_i, gtr_i, geq_i, eql_i, neq_i, min_i, max_i, conv_i, len_sl, len_nil, not_b, cells_agg, new_s, fld_p, nil_p, decide_eq_true h1]
    rw [show max lo (min a hi) = lo by omega]
  · by_cases h2 : a > hi
    · simp only [bnd, guard_tt, guard_ff, guard_tf, guard_ft, pick_t, pick_f, if_t, if_f, add_i, sub_i, lss_i, leq_i, gtr_i, geq_i, eql_i, neq_i, min_i, max_i, conv_i, len_sl, len_nil, not_b, cells_agg, new_s, fld_p, nil_p, decide_eq_false h1, decide_eq_true h2]
      rw [show max lo (min a hi) = hi by omega]
    · simp only [bnd, guard_tt, guard_ff, guard_tf, guard_ft, pick_t, pick_f, if_t, if_f, add_i, sub_i, lss_i, leq_i, gtr_i, geq_i, eql_i, neq_i, min_i, max_i, conv_i, len_sl, len_nil, not_b, cells_agg, new_s, fld_p, nil_p, decide_eq_false h1, decide_eq_false h2]
      rw [show max lo (min a hi) = a by omega]
def zero12 : List AV := [AV.int .i64 0, AV.int .i64 0, AV.int .i64 0, AV.nilsl, AV.int .u8 0, AV.int .u64 0, AV.int .i64 0, AV.int .i64 0, AV.int .i64 0, AV.int .i64 0, AV.int .i64 0, AV.int .i64 0]
theorem zero12_eq : [AV.int .i64 0, AV.int .i64 0, AV.int .i64 0, AV.nilsl, AV.int .u8 0, AV.int .u64 0, AV.int .i64 0, AV.int .i64 0, AV.int .i64 0, AV.int .i64 0, AV.int .i64 0, AV.int .i64 0] = zero12 := rfl
theorem zero12_len : zero12.length = 12 := rfl
theorem rnew_run (a b c : Int) (k : Nat) (s : Store) : ∃ s', rn (k + 2) 7 [.int .i64 a, .int .i64 b, .int .i64 c] s = some (.agg (mcells (gnew a b c).abs .nilsl), s') ∧ Ext s s' := by
  rw [show k + 2 = (k + 1) + 1 from rfl, unisonref13_New.eq]
  unfold unisonref13_New.f unisonref13_New.p3 unisonref13_New.p2
  rw [zero12_eq, new_s, zero12_len]
  have e1 := Ext.push s (.cells zero12 false)
  have g1 : (s.push (.cells zero12 false)).get s.next = .cells zero12 false := by rw [get_push, if_pos rfl]
  have n1 : s.next < (s.push (.cells zero12 false)).next := Nat.lt_succ_self _
  have nn1 : (s.push (.cells zero12 false)).next = s.next + 1 := rfl
  generalize s.push (.cells zero12 false) = s1 at e1 g1 n1 nn1 ⊢
  have r1 := rin_run a 1 65536 (by decide) k s1
  have r2 := rin_run b 0 1048576 (by decide) k s1
  have e2 := Ext.push s1 (.cells zero12 false)
  have hb : ∀ (x y z : Int) {α : Type} (f : List AV → Option α), aBuild [(0, 1, .int .i64 x), (1, 1, .int .i64 y), (2, 1, .int .i64 z)] zero12 f = f (mcells ⟨x, y, z, [], (0, 0), [0, 0, 0, 0, 0, 0]⟩ .nilsl) := fun x y z α f => rfl
  have hst := fun {vs : List AV} (hv : vs.length = 12) {α : Type} (f : Store → Option α) => st12 (s := s1.push (.cells zero12 false)) (x := s1.next) (by rw [get_push, if_pos rfl]) zero12_len hv f
  simp only [r1, r2, bnd, hb, new_s, zero12_len]
  rw [hst (mcells_len rfl)]
  have g2 : ((s1.push (.cells zero12 false)).set s1.next (.cells (mcells ⟨max 1 (min a 65536), max 0 (min b 1048576), c, [], (0, 0), [0, 0, 0, 0, 0, 0]⟩ .nilsl) false)).get s1.next = .cells (mcells ⟨max 1 (min a 65536), max 0 (min b 1048576), c, [], (0, 0), [0, 0, 0, 0, 0, 0]⟩ .nilsl) false := by rw [get_set, if_pos rfl]
  have e3 : Ext s1 ((s1.push (.cells zero12 false)).set s1.next (.cells (mcells ⟨max 1 (min a 65536), max 0 (min b 1048576), c, [], (0, 0), [0, 0, 0, 0, 0, 0]⟩ .nilsl) false)) := ⟨e2.next, fun l hl => by rw [get_set, if_neg (by omega)]; exact e2.get l hl⟩
  generalize ((s1.push (.cells zero12 false)).set s1.next (.cells (mcells ⟨max 1 (min a 65536), max 0 (min b 1048576), c, [], (0, 0), [0, 0, 0, 0, 0, 0]⟩ .nilsl) false)) = s2 at g2 e3 ⊢
  unfold unisonref13_New.p1
  have ld2 := fun {α : Type} (f : AV → Option α) => m_fld g2 rfl (j := 2) (v := .int .i64 c) rfl f
  have ld1 := fun {α : Type} (f : AV → Option α) => m_fld g2 rfl (j := 1) (v := .int .i64 (max 0 (min b 1048576))) rfl f
  have fin : ∀ (t : Store), t.get s1.next = .cells (mcells ⟨max 1 (min a 65536), max 0 (min b 1048576), max c (max 0 (min b 1048576)), [], (0, 0), [0, 0, 0, 0, 0, 0]⟩ .nilsl) false → Ext s1 t → ∃ s', unisonref13_New.p0 (k + 1) (.ptr s.next 0 12) (.ptr s1.next 0 12) t = some (.agg (mcells (gnew a b c).abs .nilsl), s') ∧ Ext s s' := by
    intro t ht et
    unfold unisonref13_New.p0
    have h0 : t.get s.next = .cells zero12 false := (et.get _ n1).trans g1
    have hm := fun {α : Type} (f : AV → Option α) => m_all ht rfl f
    have hst2 := fun {α : Type} (f : Store → Option α) => st12 h0 zero12_len (vs := mcells ⟨max 1 (min a 65536), max 0 (min b 1048576), max c (max 0 (min b 1048576)), [], (0, 0), [0, 0, 0, 0, 0, 0]⟩ .nilsl) (mcells_len rfl) f
    have hm2 := fun {α : Type} (f : AV → Option α) => m_all (s := t.set s.next (.cells (mcells ⟨max 1 (min a 65536), max 0 (min b 1048576), max c (max 0 (min b 1048576)), [], (0, 0), [0, 0, 0, 0, 0, 0]⟩ .nilsl) false)) (x := s.next) (a := ⟨max 1 (min a 65536), max 0 (min b 1048576), max c (max 0 (min b 1048576)), [], (0, 0), [0, 0, 0, 0, 0, 0]⟩) (lv := .nilsl) (ro := false) (by rw [get_set, if_pos rfl]) rfl f
    simp only [hm, hst2, hm2]
    refine ⟨_, rfl, ⟨Nat.le_trans e1.next et.next, fun l hl => ?_⟩⟩
    rw [get_set, if_neg (by omega), et.get l (by omega)]
    exact e1.get l hl
  simp only [bnd, guard_tt, guard_ff, guard_tf, guard_ft, pick_t, pick_f, if_t, if_f, add_i, sub_i, lss_i, leq_i, gtr_i, geq_i, eql_i, neq_i, min_i, max_i, conv_i, len_sl, len_nil, not_b, cells_agg, new_s, fld_p, nil_p, ld2, ld1]
  by_cases hlt : c < max 0 (min b 1048576)
  · have hst3 := fun {α : Type} (f : Store → Option α) => g_st (ep := 12) (j := 0 + 2) (v := .int .i64 (max 0 (min b 1048576))) g2 (mcells_len rfl) (by decide) rfl f
    simp only [decide_eq_true hlt, if_t, hst3]
    exact fin _ (by rw [get_set, if_pos rfl, show max c (max 0 (min b 1048576)) = max 0 (min b 1048576) by omega]; rfl) ⟨e3.next, fun l hl => by rw [get_set, if_neg (by omega)]; exact e3.get l hl⟩
  · simp only [decide_eq_false hlt, if_f]
    exact fin s2 (by rw [g2, show max c (max 0 (min b 1048576)) = c by omega]) e3

theorem rfirst_loop {x : Nat} {lv : AV} {a : AG} {L : List PE} {j : Nat} {hs : List Bool} {cs : List (List Int)} (h : RG s lv a L) (hx : s.get x = .cells (mcells a lv) false) (hj : j < L.length) (he : RE s a.chunk L[j] hs cs) (hn : hs.length ≤ 1048576) (k : Nat) : ∀ (m i : Nat), i ≤ hs.length → hs.length - i < m →
    unisonref13_G_First.l0 k m (.ptr x 0 12) (.int .i64 (j : Int)) (.int .i64 (hs.length : Nat)) (.int .i64 (i : Int)) s = some (.int .i64 ((restW L[j].q.W L[j].q.n i).headD 0 : Nat), s)
  | 0, i, hi, hm => by omega
  | m + 1, i, hi, hm => by
    have hs' : unisonref13_G_First.l0 k (m + 1) = fun x2 x5 x18 x19 s => unisonref13_G_First.p4 k (unisonref13_G_First.l0 k m) x2 x5 x18 x19 s := rfl
    rw [hs']
    clear hs'
    simp only
    unfold unisonref13_G_First.p4 unisonref13_G_First.p3 unisonref13_G_First.p2 unisonref13_G_First.p1 unisonref13_G_First.p0
    by_cases hlt : i < hs.length
    · obtain ⟨id, ep, a1, a2, a3, a4⟩ := pl_at h.l hj
      have ldl := fun {α : Type} (f : AV → Option α) => m_fld hx h.cnt (j := 3) (v := lv) rfl f
      have ldh := fun {α : Type} (f : AV → Option α) => a2 (j := 3) (v := L[j].hv) rfl f
      obtain ⟨p, p1, p2⟩ := elemL (c := bc) (es := 1) (fun _ => rfl) he.h hlt
      have hb := he.good.bits i (by rw [← he.good.hl]; exact hlt)
      rw [List.getElem?_eq_getElem hlt] at hb
      have ld1 := fun {α : Type} (f : AV → Option α) => load1_of (v := .bool hs[i]) p2 f
      have hw : IntKind.i64.wrap ((i : Int) + 1) = ((i + 1 : Nat) : Int) := by rw [w_i64 (by omega) (by omega)]; omega
      have hrc := rest_cons (W := L[j].q.W) (n := L[j].q.n) (i := i) (by rw [← he.good.hl]; exact hlt)
      simp only [bnd, guard_tt, guard_ff, guard_tf, guard_ft, pick_t, pick_f, if_t, if_f, add_i, sub_i, lss_i, leq_i, gtr_i, geq_i, eql_i, neq_i, min_i, max_i, conv_i, len_sl, len_nil, not_b, cells_agg, new_s, fld_p, nil_p, decide_eq_true (show (i : Int) < ((hs.length : Nat) : Int) by omega), ldl, a1, ldh, p1, ld1]
      rw [hrc, ← Option.some.inj hb]
      cases hs[i]
      · simp only [bnd, guard_tt, guard_ff, guard_tf, guard_ft, pick_t, pick_f, if_t, if_f, add_i, sub_i, lss_i, leq_i, gtr_i, geq_i, eql_i, neq_i, min_i, max_i, conv_i, len_sl, len_nil, not_b, cells_agg, new_s, fld_p, nil_p, Bool.not_false]
        rfl
      · simp only [bnd, guard_tt, guard_ff, guard_tf, guard_ft, pick_t, pick_f, if_t, if_f, add_i, sub_i, lss_i, leq_i, gtr_i, geq_i, eql_i, neq_i, min_i, max_i, conv_i, len_sl, len_nil, not_b, cells_agg, new_s, fld_p, nil_p, Bool.not_true, hw]
        rw [rfirst_loop h hx hj he hn k m (i + 1) (by omega) (by omega)]
        rfl
    · simp only [bnd, guard_tt, guard_ff, guard_tf, guard_ft, pick_t, pick_f, if_t, if_f, add_i, sub_i, lss_i, leq_i, gtr_i, geq_i, eql_i, neq_i, min_i, max_i, conv_i, len_sl, len_nil, not_b, cells_agg, new_s, fld_p, nil_p, decide_eq_false (show ¬ (i : Int) < ((hs.length : Nat) : Int) by omega)]
      rw [rest_nil (by rw [← he.good.hl]; omega)]
      rfl
theorem rfirst_run {lv : AV} {a : AG} {L : List PE} (h : RG s lv a L) (hL : L.length ≤ 1000000) (w : Int × Int) (hn : ∀ q ∈ a.L, q.n ≤ 1048576) (k : Nat) (hk : L.length < k) (hk2 : 1048576 < k) : ∃ s', rn (k + 2) 17 [.agg (mcells a lv), .agg (idc w)] s = some (.int .i64 (firstA a w : Nat), s') ∧ Ext s s' := by
  rw [show k + 2 = (k + 1) + 1 from rfl, unisonref13_G_First.eq]
  unfold unisonref13_G_First.f unisonref13_G_First.p8 unisonref13_G_First.p7
  have e1 := Ext.push s (.cells (mcells a lv) false)
  have hx1 : (s.push (.cells (mcells a lv) false)).get s.next = .cells (mcells a lv) false := by rw [get_push, if_pos rfl]
  have hn1 : s.next < (s.push (.cells (mcells a lv) false)).next := Nat.lt_succ_self _
  simp only [cells_agg, new_s, mcells_len h.cnt]
  generalize s.push (.cells (mcells a lv) false) = s1 at e1 hx1 hn1 ⊢
  have e2 := Ext.push s1 (.cells (idc w) false)
  have hy : (s1.push (.cells (idc w) false)).get s1.next = .cells (idc w) false := by rw [get_push, if_pos rfl]
  have hx2 := (e2.get _ hn1).trans hx1
  have hn2 : s.next < (s1.push (.cells (idc w) false)).next := Nat.lt_of_lt_of_le hn1 e2.next
  have hl2 : (idc w).length = 2 := rfl
  simp only [hl2]
  have e12 := e1.trans e2
  generalize s1.push (.cells (idc w) false) = s2 at e2 hy hx2 hn2 e12 ⊢
  have hm := fun {α : Type} (f : AV → Option α) => m_all hx2 h.cnt f
  have ldw : ∀ {α : Type} (f : AV → Option α), aLoadN 2 (.ptr s1.next 0 2) s2 f = f (.agg (idc w)) := fun f => load_n hy rfl (by show 0 + 2 ≤ 2; decide)
  obtain ⟨s3, f1, f2⟩ := rfind_run (h.ext e12) hL w k hk
  simp only [hm, ldw, f1, bnd]
  unfold unisonref13_G_First.p6
  have e3 := e12.trans f2
  by_cases hf : findA w a.L < a.L.length
  · rw [if_pos hf]
    have hjl : findA w a.L < L.length := by rw [h.len]; exact hf
    have h3 := h.ext e3
    have hx3 := (f2.get _ hn2).trans hx2
    obtain ⟨hs, cs, he⟩ := h3.each _ (List.getElem_mem hjl)
    obtain ⟨id, ep, a1, a2, a3, a4⟩ := pl_at h3.l hjl
    have ldl := fun {α : Type} (f : AV → Option α) => m_fld hx3 h.cnt (j := 3) (v := lv) rfl f
    have ldh := fun {α : Type} (f : AV → Option α) => a2 (j := 3) (v := L[findA w a.L].hv) rfl f
    have hg := h3.get hjl
    have hmem : L[findA w a.L].q ∈ a.L := List.mem_of_getElem? hg
    have hnl : hs.length ≤ 1048576 := by rw [he.good.hl]; exact hn _ hmem
    unfold unisonref13_G_First.p5
    simp only [bnd, guard_tt, guard_ff, guard_tf, guard_ft, pick_t, pick_f, if_t, if_f, add_i, sub_i, lss_i, leq_i, gtr_i, geq_i, eql_i, neq_i, min_i, max_i, conv_i, len_sl, len_nil, not_b, cells_agg, new_s, fld_p, nil_p, decide_eq_false (show ¬ ((findA w a.L : Nat) : Int) < 0 by omega), ldl, a1, ldh]
    rw [lenL he.h]
    have := rfirst_loop h3 hx3 hjl he hnl (k + 1) (k + 1) 0 (Nat.zero_le _) (by omega)
    refine ⟨s3, ?_, e3⟩
    rw [show firstA a w = (restW L[findA w a.L].q.W L[findA w a.L].q.n 0).headD 0 by unfold firstA; rw [hg]]
    exact this
  · rw [if_neg hf]
    simp only [bnd, guard_tt, guard_ff, guard_tf, guard_ft, pick_t, pick_f, if_t, if_f, add_i, sub_i, lss_i, leq_i, gtr_i, geq_i, eql_i, neq_i, min_i, max_i, conv_i, len_sl, len_nil, not_b, cells_agg, new_s, fld_p, nil_p, decide_eq_true (show (-1 : Int) < 0 by decide)]
    refine ⟨s3, ?_, e3⟩
    rw [show firstA a w = 0 by unfold firstA; rw [List.getElem?_eq_none (by omega)]]
    rfl

theorem isL_lo {β : Type} {c : β → List AV} {es lo : Nat} {v : AV} {l : List β} (e : ExtLo lo s s') (h : IsL c es s v l) (hv : ∀ a b c d e, v = .sl a b c d e → a < lo) : IsL c es s' v l := by
  rcases h with h | ⟨id, ro, h1, h2, h3⟩
  · exact .inl h
  · exact .inr ⟨id, ro, h1, Nat.lt_of_lt_of_le h2 e.next, (e.get id (hv _ _ _ _ _ h1)).trans h3⟩
theorem rids_loop {x : Nat} {lv : AV} {a : AG} {L : List PE} (lo : Nat) (heq : L.map PE.q = a.L) (hcn : a.counts.length = 6) (hL : L.length ≤ 1000000) (k : Nat) : ∀ (m i : Nat) (s : Store) (v : AV), IsL pcl 5 s lv L → (∀ a b c d e, lv = .sl a b c d e → a < lo) → s.get x = .cells (mcells a lv) false → x < lo → OwnL idc 2 s v ((a.L.take i).map (·.id)) lo → lo ≤ s.next → i ≤ L.length → L.length - i < m →
    ∃ v' s', unisonref13_G_IDs.l0 k m (.ptr x 0 12) v (.int .i64 (L.length : Nat)) (.int .i64 (i : Int)) s = some (v', s') ∧ OwnL idc 2 s' v' (a.L.map (·.id)) lo ∧ ExtLo lo s s'
  | 0, i, s, v, _, _, _, _, _, _, hi, hm => by omega
  | m + 1, i, s, v, h, hvl, hx, hxl, hv, hlo, hi, hm => by
    have hs : unisonref13_G_IDs.l0 k (m + 1) = fun x1 x3 x8 x9 s => unisonref13_G_IDs.p4 k (unisonref13_G_IDs.l0 k m) x1 x3 x8 x9 s := rfl
    rw [hs]
    clear hs
    simp only
    unfold unisonref13_G_IDs.p4 unisonref13_G_IDs.p3 unisonref13_G_IDs.p2 unisonref13_G_IDs.p1 unisonref13_G_IDs.p0
    by_cases hlt : i < L.length
    · obtain ⟨id, ep, a1, a2, a3, a4⟩ := pl_at h hlt
      have ldl := fun {α : Type} (f : AV → Option α) => m_fld hx hcn (j := 3) (v := lv) rfl f
      have hla : i < a.L.length := by rw [← heq, List.length_map]; exact hlt
      have hg : a.L[i]? = some L[i].q := by rw [← heq, List.getElem?_map, List.getElem?_eq_getElem hlt]; rfl
      rw [List.getElem?_eq_getElem hla] at hg
      have hb : ∀ {α : Type} (f : List AV → Option α), aBuild [(0, 2, .agg (idc L[i].q.id))] [AV.int .u8 0, AV.int .u64 0] f = f (idc L[i].q.id) := fun f => rfl
      obtain ⟨v1, s1, b1, b2, b3⟩ := app_ownL (c := idc) (es := 2) (bytes := 16) (fun _ => rfl) (by decide) (by decide) hv hlo L[i].q.id (by rw [List.length_map, List.length_take]; omega)
      have hw : IntKind.i64.wrap ((i : Int) + 1) = ((i + 1 : Nat) : Int) := by rw [w_i64 (by omega) (by omega)]; omega
      have htake : (a.L.take i).map (·.id) ++ [L[i].q.id] = (a.L.take (i + 1)).map (·.id) := by
        rw [List.take_succ_eq_append_getElem hla, List.map_append, Option.some.inj hg]; rfl
      rw [htake] at b2
      have hl1 : IsL pcl 5 s1 lv L := isL_lo b3 h hvl
      obtain ⟨v2, s2, c1, c2, c3⟩ := rids_loop lo heq hcn hL k m (i + 1) s1 v1 hl1 hvl ((b3.get _ hxl).trans hx) hxl b2 (Nat.le_trans hlo b3.next) (by omega) (by omega)
      simp only [bnd, guard_tt, guard_ff, guard_tf, guard_ft, pick_t, pick_f, if_t, if_f, add_i, sub_i, lss_i, leq_i, gtr_i, geq_i, eql_i, neq_i, min_i, max_i, conv_i, len_sl, len_nil, not_b, cells_agg, new_s, fld_p, nil_p, decide_eq_true (show (i : Int) < ((L.length : Nat) : Int) by omega), ldl, a1, a3, hb, b1, hw, c1]
      exact ⟨v2, s2, rfl, c2, b3.trans c3⟩
    · simp only [bnd, guard_tt, guard_ff, guard_tf, guard_ft, pick_t, pick_f, if_t, if_f, add_i, sub_i, lss_i, leq_i, gtr_i, geq_i, eql_i, neq_i, min_i, max_i, conv_i, len_sl, len_nil, not_b, cells_agg, new_s, fld_p, nil_p, decide_eq_false (show ¬ (i : Int) < ((L.length : Nat) : Int) by omega)]
      have hi2 : a.L.take i = a.L := List.take_of_length_le (by rw [← heq, List.length_map]; omega)
      rw [hi2] at hv
      exact ⟨v, s, rfl, hv, ExtLo.refl _ _⟩
theorem rids_run {lv : AV} {a : AG} {L : List PE} (h : RG s lv a L) (hL : L.length ≤ 1000000) (k : Nat) (hk : L.length < k) : ∃ v s', rn (k + 1) 21 [.agg (mcells a lv)] s = some (v, s') ∧ IsL idc 2 s' v (a.L.map (·.id)) ∧ Ext s s' := by
  rw [unisonref13_G_IDs.eq]
  unfold unisonref13_G_IDs.f unisonref13_G_IDs.p7 unisonref13_G_IDs.p6 unisonref13_G_IDs.p5
  have e1 := Ext.push s (.cells (mcells a lv) false)
  have hx1 : (s.push (.cells (mcells a lv) false)).get s.next = .cells (mcells a lv) false := by rw [get_push, if_pos rfl]
  have hn1 : s.next < (s.push (.cells (mcells a lv) false)).next := Nat.lt_succ_self _
  simp only [cells_agg, new_s, mcells_len h.cnt]
  generalize s.push (.cells (mcells a lv) false) = s1 at e1 hx1 hn1 ⊢
  have e2 := Ext.push s1 (.cells [] false)
  have g2 : (s1.push (.cells [] false)).get s1.next = .cells [] false := by rw [get_push, if_pos rfl]
  have n2 : (s1.push (.cells [] false)).next = s1.next + 1 := rfl
  have hx2 := (e2.get _ hn1).trans hx1
  rw [build_0]
  generalize s1.push (.cells [] false) = s2 at e2 g2 n2 hx2 ⊢
  have e12 := e1.trans e2
  have ldl := fun {α : Type} (f : AV → Option α) => m_fld hx2 h.cnt (j := 3) (v := lv) rfl f
  have hl2 := h.l.ext e12
  have hvl : ∀ a b c d e, lv = .sl a b c d e → a < s1.next := fun a b c d e q => by
    rcases h.l with ⟨q1, _⟩ | ⟨id, ro, q1, q2, _⟩
    · rw [q1] at q; cases q
    · rw [q1] at q
      injection q with q
      have := e1.next
      omega
  obtain ⟨v, s3, c1, c2, c3⟩ := rids_loop (x := s.next) s1.next h.eq h.cnt hL k k 0 s2 (.sl s1.next 0 0 2 0) hl2 hvl hx2 hn1 (.inr ⟨s1.next, rfl, Nat.le_refl _, by omega, by rw [g2]; rfl⟩) (by omega) (Nat.zero_le _) (by omega)
  simp only [bnd, guard_tt, guard_ff, guard_tf, guard_ft, pick_t, pick_f, if_t, if_f, add_i, sub_i, lss_i, leq_i, gtr_i, geq_i, eql_i, neq_i, min_i, max_i, conv_i, len_sl, len_nil, not_b, cells_agg, new_s, fld_p, nil_p, ldl]
  rw [lenL h.l]
  exact ⟨v, s3, c1, c2.is, ⟨Nat.le_trans e12.next c3.next, fun l hl => (c3.get l (Nat.lt_of_lt_of_le hl e1.next)).trans (e12.get l hl)⟩⟩
theorem sameids_loop {v1 v2 : AV} {l : List (Int × Int)} (h1 : IsL idc 2 s v1 l) (h2 : IsL idc 2 s v2 l) (hl : l.length ≤ 1000000) (k : Nat) : ∀ (m i : Nat), i ≤ l.length → l.length - i < m →
    unisonref03_SameIDs.l0 k m v1 v2 (.int .i64 (l.length : Nat)) (.int .i64 (i : Int)) s = some (.bool true, s)
  | 0, i, hi, hm => by omega
  | m + 1, i, hi, hm => by
    have hs : unisonref03_SameIDs.l0 k (m + 1) = fun x0 x1 x12 x13 s => unisonref03_SameIDs.p6 k (unisonref03_SameIDs.l0 k m) x0 x1 x12 x13 s := rfl
    rw [hs]
    clear hs
    simp only
    unfold unisonref03_SameIDs.p6 unisonref03_SameIDs.p5 unisonref03_SameIDs.p4 unisonref03_SameIDs.p3 unisonref03_SameIDs.p2 unisonref03_SameIDs.p1 unisonref03_SameIDs.p0
    by_cases hlt : i < l.length
    · obtain ⟨p, p1, p2⟩ := elemL (c := idc) (es := 2) (fun _ => rfl) h1 hlt
      obtain ⟨q, q1, q2⟩ := elemL (c := idc) (es := 2) (fun _ => rfl) h2 hlt
      have heq : ∀ {α : Type} (f : Bool → Option α), aEq (.struct [.int, .int]) (.agg (idc l[i])) (.agg (idc l[i])) f = f true := fun f => by
        have := eq_id l[i] l[i] f
        rw [decide_eq_true rfl] at this
        exact this
      have hw : IntKind.i64.wrap ((i : Int) + 1) = ((i + 1 : Nat) : Int) := by rw [w_i64 (by omega) (by omega)]; omega
      simp only [bnd, guard_tt, guard_ff, guard_tf, guard_ft, pick_t, pick_f, if_t, if_f, add_i, sub_i, lss_i, leq_i, gtr_i, geq_i, eql_i, neq_i, min_i, max_i, conv_i, len_sl, len_nil, not_b, cells_agg, new_s, fld_p, nil_p, decide_eq_true (show (i : Int) < ((l.length : Nat) : Int) by omega), p1, p2, q1, q2, heq, Bool.not_true, hw]
      exact sameids_loop h1 h2 hl k m (i + 1) (by omega) (by omega)
    · simp only [bnd, guard_tt, guard_ff, guard_tf, guard_ft, pick_t, pick_f, if_t, if_f, add_i, sub_i, lss_i, leq_i, gtr_i, geq_i, eql_i, neq_i, min_i, max_i, conv_i, len_sl, len_nil, not_b, cells_agg, new_s, fld_p, nil_p, decide_eq_false (show ¬ (i : Int) < ((l.length : Nat) : Int) by omega)]
theorem sameids_run {v1 v2 : AV} {l : List (Int × Int)} (h1 : IsL idc 2 s v1 l) (h2 : IsL idc 2 s v2 l) (hl : l.length ≤ 1000000) (k : Nat) (hk : l.length < k) : rn (k + 1) 19 [v1, v2] s = some (.bool true, s) := by
  rw [unisonref03_SameIDs.eq]
  unfold unisonref03_SameIDs.f unisonref03_SameIDs.p9 unisonref03_SameIDs.p8 unisonref03_SameIDs.p7
  have hz : ((l.length : Int) != (l.length : Int)) = false := by simp
  rw [lenL h1, lenL h2]
  simp only [bnd, guard_tt, guard_ff, guard_tf, guard_ft, pick_t, pick_f, if_t, if_f, add_i, sub_i, lss_i, leq_i, gtr_i, geq_i, eql_i, neq_i, min_i, max_i, conv_i, len_sl, len_nil, not_b, cells_agg, new_s, fld_p, nil_p, hz]
  rw [lenL h1]
  exact sameids_loop h1 h2 hl k k 0 (Nat.zero_le _) (by omega)

/-- Without the part at a place. -/
theorem without_run {lv : AV} {a : AG} {L : List PE} (h : RG s lv a L) (hL : L.length ≤ 1000000) {i : Nat} (hi : i < L.length) (k : Nat) : ∃ lv' s', rn (k + 1) 27 [.agg (mcells a lv), .int .i64 (i : Int)] s = some (.agg (mcells { a with L := a.L.eraseIdx i } lv'), s') ∧ RG s' lv' { a with L := a.L.eraseIdx i } (L.eraseIdx i) ∧ (∃ r n m, lv' = .sl r 0 n 5 m ∧ s.next ≤ r) ∧ Ext s s' := by
  rw [unisonref13_G_without.eq]
  unfold unisonref13_G_without.f unisonref13_G_without.p0
  have e1 := Ext.push s (.cells (mcells a lv) false)
  have hx1 : (s.push (.cells (mcells a lv) false)).get s.next = .cells (mcells a lv) false := by rw [get_push, if_pos rfl]
  have n1 : (s.push (.cells (mcells a lv) false)).next = s.next + 1 := rfl
  simp only [cells_agg, new_s, mcells_len h.cnt]
  generalize s.push (.cells (mcells a lv) false) = s1 at e1 hx1 n1 ⊢
  rw [zero12_eq, zero12_len]
  have e2 := Ext.push s1 (.cells zero12 false)
  have hx2 := (e2.get s.next (by omega)).trans hx1
  have g2 : (s1.push (.cells zero12 false)).get s1.next = .cells zero12 false := by rw [get_push, if_pos rfl]
  have n2 : (s1.push (.cells zero12 false)).next = s1.next + 1 := rfl
  have e12 := e1.trans e2
  generalize s1.push (.cells zero12 false) = s2 at e2 hx2 g2 n2 e12 ⊢
  rw [build_0]
  have e3 := Ext.push s2 (.cells [] false)
  have hx3 := (e3.get s.next (by omega)).trans hx2
  have g3 : (s2.push (.cells [] false)).get s2.next = .cells [] false := by rw [get_push, if_pos rfl]
  have n3 : (s2.push (.cells [] false)).next = s2.next + 1 := rfl
  have g32 := (e3.get s1.next (by omega)).trans g2
  have e13 := e12.trans e3
  generalize s2.push (.cells [] false) = s3 at e3 hx3 g3 n3 g32 e13 ⊢
  have h3 := h.l.ext e13
  have ldl := fun {α : Type} (f : AV → Option α) => m_fld hx3 h.cnt (j := 3) (v := lv) rfl f
  obtain ⟨c1, c2, c3⟩ := cut_hiL pcl_len h.l (i := i) (by omega)
  have hl1 := flatL_len pcl_len (L.take i)
  rw [List.length_take, Nat.min_eq_left (by omega)] at hl1
  obtain ⟨s4, a1, a2, a3, a4⟩ := app_cells (bytes := 72) (es := 5) (n := 0) (xs := []) g3 rfl (c3 h3) hl1 (by decide) (by omega) (by decide)
  rw [Nat.zero_mul, Nat.zero_add] at a1
  rw [List.nil_append] at a2
  have hfar : ∀ a b c d e, lv = .sl a b c d e → a < s.next := fun a b c d e q => by
    rcases h.l with ⟨q1, _⟩ | ⟨id, ro, q1, q2, _⟩
    · rw [q1] at q; cases q
    · rw [q1] at q
      injection q with q
      omega
  have e4 : Ext s s4 := ⟨by have := e13.next; omega, fun l hl => (a3.get l (by omega) (by omega)).trans (e13.get l hl)⟩
  have h4 := h.l.ext e4
  have hx4 := (a3.get s.next (by omega) (by omega)).trans hx3
  have g42 := (a3.get s1.next (by omega) (by omega)).trans g32
  have ldl4 := fun {α : Type} (f : AV → Option α) => m_fld hx4 h.cnt (j := 3) (v := lv) rfl f
  have hw : IntKind.i64.wrap ((i : Int) + 1) = ((i + 1 : Nat) : Int) := by rw [w_i64 (by omega) (by omega)]; omega
  obtain ⟨d1, d2, d3⟩ := cut_loL pcl_len h.l (i := i + 1) (by omega)
  have hl2 := flatL_len pcl_len (L.drop (i + 1))
  rw [List.length_drop] at hl2
  obtain ⟨s5, b1, b2, b3, b4⟩ := app_cells (bytes := 72) (es := 5) (n := i) a2 hl1 (d3 h4) hl2 (by decide) (by omega) (by decide)
  have hx5 := (b3.get s.next (by omega) (by omega)).trans hx4
  have g52 := (b3.get s1.next (by omega) (by omega)).trans g42
  have hel : (L.eraseIdx i).length = i + (L.length - (i + 1)) := by rw [List.length_eraseIdx, if_pos hi]; omega
  have hst := fun {α : Type} (f : Store → Option α) => g_st (ep := 12) (j := 0 + 3) (v := .sl s2.next 0 (i + (L.length - (i + 1))) 5 ((i + (L.length - (i + 1))) * 5)) hx5 (mcells_len h.cnt) (by decide) rfl f
  have hset : (mcells a lv).set (0 + 3) (.sl s2.next 0 (i + (L.length - (i + 1))) 5 ((i + (L.length - (i + 1))) * 5)) = mcells { a with L := a.L.eraseIdx i } (.sl s2.next 0 (i + (L.length - (i + 1))) 5 ((i + (L.length - (i + 1))) * 5)) := rfl
  simp only [bnd, guard_tt, guard_ff, guard_tf, guard_ft, pick_t, pick_f, if_t, if_f, add_i, sub_i, lss_i, leq_i, gtr_i, geq_i, eql_i, neq_i, min_i, max_i, conv_i, len_sl, len_nil, not_b, cells_agg, new_s, fld_p, nil_p, ldl, c2]
  simp only [a1, ldl4, bnd, guard_tt, guard_ff, guard_tf, guard_ft, pick_t, pick_f, if_t, if_f, add_i, sub_i, lss_i, leq_i, gtr_i, geq_i, eql_i, neq_i, min_i, max_i, conv_i, len_sl, len_nil, not_b, cells_agg, new_s, fld_p, nil_p, hw, d2, b1, hst, hset]
  generalize hlv : AV.sl s2.next 0 (i + (L.length - (i + 1))) 5 ((i + (L.length - (i + 1))) * 5) = lv'
  have g6 : (s5.set s.next (.cells (mcells { a with L := a.L.eraseIdx i } lv') false)).get s.next = .cells (mcells { a with L := a.L.eraseIdx i } lv') false := by rw [get_set, if_pos rfl]
  have hm := fun {α : Type} (f : AV → Option α) => m_all (a := { a with L := a.L.eraseIdx i }) g6 h.cnt f
  have g62 : (s5.set s.next (.cells (mcells { a with L := a.L.eraseIdx i } lv') false)).get s1.next = .cells zero12 false := by rw [get_set, if_neg (by omega)]; exact g52
  have hst2 := fun {α : Type} (f : Store → Option α) => st12 g62 zero12_len (vs := mcells { a with L := a.L.eraseIdx i } lv') (mcells_len h.cnt) f
  have hm2 := fun {α : Type} (f : AV → Option α) => m_all (s := (s5.set s.next (.cells (mcells { a with L := a.L.eraseIdx i } lv') false)).set s1.next (.cells (mcells { a with L := a.L.eraseIdx i } lv') false)) (x := s1.next) (a := { a with L := a.L.eraseIdx i }) (lv := lv') (ro := false) (by rw [get_set, if_pos rfl]) h.cnt f
  simp only [hm, hst2, hm2]
  have e6 : Ext s ((s5.set s.next (.cells (mcells { a with L := a.L.eraseIdx i } lv') false)).set s1.next (.cells (mcells { a with L := a.L.eraseIdx i } lv') false)) := by
    refine ⟨by show s.next ≤ s5.next; have := e4.next; omega, fun l hl => ?_⟩
    rw [get_set, if_neg (by omega), get_set, if_neg (by omega)]
    exact (b3.get l (by have := e4.next; omega) (by omega)).trans (e4.get l hl)
  refine ⟨lv', _, rfl, ⟨.inr ⟨s2.next, false, by rw [hel, ← hlv], by show s2.next < s5.next; omega, ?_⟩, ?_, fun e he => ?_, h.cnt⟩, ⟨s2.next, _, _, hlv.symm, by omega⟩, e6⟩
  · rw [get_set, if_neg (by omega), get_set, if_neg (by omega), b2, ← List.flatten_append, ← List.map_append, List.eraseIdx_eq_take_drop_succ]
  · rw [← h.eq]
    apply List.ext_getElem?
    intro j
    simp only [List.getElem?_eraseIdx, List.getElem?_map]
    split <;> rfl
  · obtain ⟨hs, cs, q⟩ := h.each e (List.mem_of_mem_eraseIdx he)
    exact ⟨hs, cs, q.ext e6⟩
theorem rdrop_run {lv : AV} {a : AG} {L : List PE} (h : RG s lv a L) (hL : L.length ≤ 1000000) (w : Int × Int) (k : Nat) (hk : L.length < k) : ∃ lv' L' s', rn (k + 2) 12 [.agg (mcells a lv), .agg (idc w)] s = some (.tuple [.agg (mcells (dropA a w).1 lv'), .int .i64 ((dropA a w).2 : Nat)], s') ∧ RG s' lv' (dropA a w).1 L' ∧ Ext s s' ∧ ∀ Q : Nat → Prop, (∀ i, s.next ≤ i → Q i) → Off Q lv L → Off Q lv' L' := by
  rw [show k + 2 = (k + 1) + 1 from rfl, unisonref13_G_Drop.eq]
  unfold unisonref13_G_Drop.f unisonref13_G_Drop.p0
  have e1 := Ext.push s (.cells (mcells a lv) false)
  have hx1 : (s.push (.cells (mcells a lv) false)).get s.next = .cells (mcells a lv) false := by rw [get_push, if_pos rfl]
  have n1 : (s.push (.cells (mcells a lv) false)).next = s.next + 1 := rfl
  simp only [cells_agg, new_s, mcells_len h.cnt]
  generalize s.push (.cells (mcells a lv) false) = s1 at e1 hx1 n1 ⊢
  have hl2 : (idc w).length = 2 := rfl
  simp only [hl2]
  have e2 := Ext.push s1 (.cells (idc w) false)
  have hx2 := (e2.get s.next (by omega)).trans hx1
  have g2 : (s1.push (.cells (idc w) false)).get s1.next = .cells (idc w) false := by rw [get_push, if_pos rfl]
  have n2 : (s1.push (.cells (idc w) false)).next = s1.next + 1 := rfl
  have e12 := e1.trans e2
  generalize s1.push (.cells (idc w) false) = s2 at e2 hx2 g2 n2 e12 ⊢
  rw [zero12_eq, zero12_len]
  have e3 := Ext.push s2 (.cells zero12 false)
  have hx3 := (e3.get s.next (by omega)).trans hx2
  have g3 := (e3.get s1.next (by omega)).trans g2
  have z3 : (s2.push (.cells zero12 false)).get s2.next = .cells zero12 false := by rw [get_push, if_pos rfl]
  have n3 : (s2.push (.cells zero12 false)).next = s2.next + 1 := rfl
  have e13 := e12.trans e3
  generalize s2.push (.cells zero12 false) = s3 at e3 hx3 g3 z3 n3 e13 ⊢
  have hm := fun {α : Type} (f : AV → Option α) => m_all hx3 h.cnt f
  have ldw : ∀ {α : Type} (f : AV → Option α), aLoadN 2 (.ptr s1.next 0 2) s3 f = f (.agg (idc w)) := fun f => load_n g3 rfl (by show 0 + 2 ≤ 2; decide)
  obtain ⟨s4, f1, f2⟩ := rfind_run (h.ext e13) hL w k hk
  have e4 := e13.trans f2
  have hx4 := (f2.get s.next (by omega)).trans hx3
  have z4 := (f2.get s2.next (by omega)).trans z3
  have hm4 := fun {α : Type} (f : AV → Option α) => m_all hx4 h.cnt f
  simp only [hm, ldw, f1, bnd]
  by_cases hf : findA w a.L < a.L.length
  · have hd : dropA a w = ({ a with L := a.L.eraseIdx (findA w a.L) }, 1) := by unfold dropA; rw [if_pos hf]
    obtain ⟨lv', s5, d1, d2, d3, d4⟩ := without_run (h.ext e4) hL (i := findA w a.L) (by rw [h.len]; exact hf) k
    have z5 := (d4.get s2.next (by have := f2.next; omega)).trans z4
    have hst := fun {α : Type} (f : Store → Option α) => st12 z5 zero12_len (vs := mcells { a with L := a.L.eraseIdx (findA w a.L) } lv') (mcells_len h.cnt) f
    have hm2 := fun {α : Type} (f : AV → Option α) => m_all (s := s5.set s2.next (.cells (mcells { a with L := a.L.eraseIdx (findA w a.L) } lv') false)) (x := s2.next) (a := { a with L := a.L.eraseIdx (findA w a.L) }) (lv := lv') (ro := false) (by rw [get_set, if_pos rfl]) h.cnt f
    rw [if_pos hf]
    simp only [bnd, guard_tt, guard_ff, guard_tf, guard_ft, pick_t, pick_f, if_t, if_f, add_i, sub_i, lss_i, leq_i, gtr_i, geq_i, eql_i, neq_i, min_i, max_i, conv_i, len_sl, len_nil, not_b, cells_agg, new_s, fld_p, nil_p, decide_eq_false (show ¬ ((findA w a.L : Nat) : Int) < 0 by omega), hm4, d1, hst, hm2]
    rw [hd]
    have e5 := e4.trans d4
    have e6 : Ext s (s5.set s2.next (.cells (mcells { a with L := a.L.eraseIdx (findA w a.L) } lv') false)) := ⟨e5.next, fun l hl => by rw [get_set, if_neg (by omega)]; exact e5.get l hl⟩
    refine ⟨lv', L.eraseIdx (findA w a.L), _, rfl, ⟨?_, d2.eq, fun e he => ?_, d2.cnt⟩, e6, fun Q hQ ho => ⟨fun i b c d g q => ?_, fun e he => ho.e e (List.mem_of_mem_eraseIdx he)⟩⟩
    rotate_left 2
    · obtain ⟨r, n, m, q4, q5⟩ := d3
      rw [q4] at q
      injection q with q
      have := e4.next
      exact hQ i (by omega)
    · rcases d2.l with q | ⟨id, ro, q1, q2, q3⟩
      · exact .inl q
      · obtain ⟨r, n, m, q4, q5⟩ := d3
        rw [q1] at q4
        injection q4 with q4
        have := f2.next
        exact .inr ⟨id, ro, q1, q2, by rw [get_set, if_neg (by omega)]; exact q3⟩
    · obtain ⟨hs, cs, q⟩ := h.each e (List.mem_of_mem_eraseIdx he)
      exact ⟨hs, cs, q.ext e6⟩
  · have hd : dropA a w = (a, 0) := by unfold dropA; rw [if_neg hf]
    have hst := fun {α : Type} (f : Store → Option α) => st12 z4 zero12_len (vs := mcells a lv) (mcells_len h.cnt) f
    have hm2 := fun {α : Type} (f : AV → Option α) => m_all (s := s4.set s2.next (.cells (mcells a lv) false)) (x := s2.next) (a := a) (lv := lv) (ro := false) (by rw [get_set, if_pos rfl]) h.cnt f
    rw [if_neg hf]
    simp only [bnd, guard_tt, guard_ff, guard_tf, guard_ft, pick_t, pick_f, if_t, if_f, add_i, sub_i, lss_i, leq_i, gtr_i, geq_i, eql_i, neq_i, min_i, max_i, conv_i, len_sl, len_nil, not_b, cells_agg, new_s, fld_p, nil_p, decide_eq_true (show (-1 : Int) < 0 by decide), hm4, hst, hm2]
    rw [hd]
    have e5 : Ext s (s4.set s2.next (.cells (mcells a lv) false)) := ⟨e4.next, fun l hl => by rw [get_set, if_neg (by omega)]; exact e4.get l hl⟩
    exact ⟨lv, L, _, rfl, h.ext e5, e5, fun Q _ ho => ho⟩
end Go.Proofs.YtmkdpenpfkmfpaaDoor.Sim
