/- Layer 13: First, Drop, Count, whole. No condition. -/
import Derived.Test.YtmkdpenpfkmfpaaDoorB13Pa
namespace Go.Proofs.YtmkdpenpfkmfpaaDoor.Sim
set_option linter.unusedSimpArgs false
set_option linter.unusedVariables false
variable {s s' : Store} {gid : Nat} {g : GS} {pv : AV} {rr : List Nat}

def dropA (g : AG) (x : Int × Int) : AG × Nat := if findA x g.L < g.L.length then ({ g with L := g.L.eraseIdx (findA x g.L) }, 1) else (g, 0)
theorem findI_abs (x : Int × Int) (g : GS) : (findI x g.L 0 = -1 ∧ findA x g.abs.L = g.L.length ∧ ∀ q ∈ g.L, q.id ≠ x) ∨ ∃ j, ∃ hj : j < g.L.length, findI x g.L 0 = (j : Int) ∧ findA x g.abs.L = j ∧ g.L[j].id = x := by
  have hA : findA x g.abs.L = _ := findA_abs x g.L
  rcases findI_spec x g.L 0 with ⟨h1, h2⟩ | ⟨j, h1, hj, h2, h3⟩
  · refine .inl ⟨h1, ?_, h2⟩
    rw [hA, h1, if_pos (by decide)]
  · refine .inr ⟨j, hj, by rw [h1, Nat.zero_add], ?_, h2⟩
    rw [hA, h1, Nat.zero_add, if_neg (by omega), Int.toNat_natCast]
theorem drop_run (h : IsG s gid g pv rr) (hL : g.L.length ≤ 1000000) {x : Int × Int} (hnd : (g.L.map (·.id)).Nodup) {lv : AV} (hl : IsL idc 2 s lv [x]) (hlr : ∀ a b c d e, lv = .sl a b c d e → a ∉ gid :: (rr ++ (g.L.map Part.rows).flatten)) (k : Nat) (hk : g.L.length < k) :
    ∃ s' g' pv', rn (k + 8) 13 [.ptr gid 0 12, lv] s = some (.int .i64 ((dropA g.abs x).2 : Nat), s') ∧ IsG s' gid g' pv' rr ∧ g'.abs = (dropA g.abs x).1 ∧ FrS (gid :: rr) s s' ∧ ∀ y ∈ (g'.L.map Part.rows).flatten, y ∈ (g.L.map Part.rows).flatten := by
  rw [show k + 8 = (k + 7) + 1 from rfl, gather_Gather_Drop.eq]
  unfold gather_Gather_Drop.f gather_Gather_Drop.p0
  have hcl : ∀ {α : Type} (f : List AV → Option α), aCells lv f = f [lv] := fun f => by
    rcases hl with ⟨q, q2⟩ | ⟨a, ro, q1, _⟩
    · cases q2
    · rw [q1]; rfl
  have e1 := Ext.push s (.cells [lv] false)
  have g1 : (s.push (.cells [lv] false)).get s.next = .cells [lv] false := by rw [get_push, if_pos rfl]
  have n1 : s.next < (s.push (.cells [lv] false)).next := Nat.lt_succ_self _
  have hl1 : [lv].length = 1 := rfl
  simp only [hcl, new_s, hl1]
  generalize s.push (.cells [lv] false) = s1 at e1 g1 n1 ⊢
  have h1 := h.ext e1
  have hll := hl.ext e1
  have ldp : ∀ {t : Store}, IsG t gid g pv rr → ∀ {α : Type} (f1 : AV → Option α), aLoad1 (.ptr gid (0 + 3) 12) t f1 = f1 pv := fun {t} ht {α} f1 => g_ld ht.st (gcells_len _ pv ht.cnt) rfl f1
  have hlen := fun {α : Type} (c : AV → Option α) => h.ptrs.len c
  simp only [bnd, guard_tt, guard_ff, guard_tf, guard_ft, pick_t, pick_f, if_t, if_f, add_i, sub_i, lss_i, leq_i, gtr_i, geq_i, eql_i, neq_i, min_i, max_i, conv_i, len_sl, len_nil, not_b, cells_agg, new_s, fld_p, nil_p, eq_pn, ldp h1, hlen]
  have hrl := h.rows_lt
  have hidx : ∃ s2, rn (k + 6) 47 [pv, .func 39 [] [.ptr s.next 0 1]] s1 = some (.int .i64 (findI x g.L 0), s2) ∧ Ext s1 s2 := by
    rw [show k + 6 = (k + 5) + 1 from rfl, gather_part_47.eq]
    unfold gather_part_47.f gather_part_47.p6 gather_part_47.p5
    rw [h1.ptrs.len]
    exact ifun_loop hL k (k + 5) 0 s1 h1.ptrs h1.parts g1 n1 hll (Nat.zero_le _) (by omega)
  obtain ⟨s2, i1, i2⟩ := hidx
  have e2 := e1.trans i2
  have h2 := h.ext e2
  have hst0 : gid < s.next := h.lt
  have hdel : ∃ s3 pv3 L', rn (k + 7) 38 [pv, .func 39 [] [.ptr s.next 0 1]] s1 = some (pv3, s3) ∧ Ptrs s3 pv3 L' rr ∧ L'.Sublist g.L ∧ FrS rr s s3 ∧ (L'.map Part.abs = (dropA g.abs x).1.L ∧ L'.length + (dropA g.abs x).2 = g.L.length) ∧ pv3.one = true := by
    rw [show k + 7 = (k + 6) + 1 from rfl, gather_part.eq]
    unfold gather_part.f gather_part.p7 gather_part.p6 gather_part.p5
    rw [i1]
    have hgl : g.abs.L.length = g.L.length := by simp [GS.abs]
    have hone : pv.one = true := by rcases h.ptrs with ⟨rfl, _⟩ | ⟨r, m, rfl, _⟩ <;> rfl
    rcases findI_abs x g with ⟨q1, q2, _⟩ | ⟨j, hj, q1, q2, q3⟩
    · have hz : ((-1 : Int) == -1) = true := rfl
      simp only [q1, bnd, guard_tt, guard_ff, guard_tf, guard_ft, pick_t, pick_f, if_t, if_f, add_i, sub_i, lss_i, leq_i, gtr_i, geq_i, eql_i, neq_i, min_i, max_i, conv_i, len_sl, len_nil, not_b, cells_agg, new_s, fld_p, nil_p, hz]
      have hd : dropA g.abs x = (g.abs, 0) := by unfold dropA; rw [q2, hgl, if_neg (Nat.lt_irrefl _)]
      exact ⟨s2, pv, g.L, rfl, h2.ptrs, List.Sublist.refl _, e2.frS _, by rw [hd]; exact ⟨rfl, by simp⟩, hone⟩
    · have hz : ((j : Int) == -1) = false := by simp
      have hw : IntKind.i64.wrap ((j : Int) + 1) = ((j + 1 : Nat) : Int) := by rw [w_i64 (by omega) (by omega)]; omega
      unfold gather_part.p4
      simp only [q1, bnd, guard_tt, guard_ff, guard_tf, guard_ft, pick_t, pick_f, if_t, if_f, add_i, sub_i, lss_i, leq_i, gtr_i, geq_i, eql_i, neq_i, min_i, max_i, conv_i, len_sl, len_nil, not_b, cells_agg, new_s, fld_p, nil_p, hz, hw]
      have hp := h2.ptrs
      rcases hp with ⟨_, z, _⟩ | ⟨r, m0, z1, z2, z3, z4⟩
      · rw [z] at hj; simp at hj
      subst z1
      subst z4
      have hne : ∀ i (hi : i < g.L.length), j < i → g.L[i].id ≠ x := fun i hi hji e => by
        have hi' : i < (g.L.map (·.id)).length := by simpa using hi
        have hj' : j < (g.L.map (·.id)).length := by simpa using hj
        refine List.pairwise_iff_getElem.1 hnd j i hj' hi' hji ?_
        rw [List.getElem_map, List.getElem_map, q3, e]
      have hrow : ((g.L.eraseIdx j).take (j + 1 - 1) ++ g.L.drop (j + 1 - 1)) = g.L := by
        rw [Nat.add_sub_cancel]
        have : (g.L.eraseIdx j).take j = g.L.take j := by
          rw [List.eraseIdx_eq_take_drop_succ, List.take_append_of_le_length (by rw [List.length_take]; omega), List.take_take, Nat.min_self]
        rw [this, List.take_append_drop]
      have hnr : s.next ≠ r := fun e => by have := hrl r (by simp); omega
      obtain ⟨s3, d1, d2, d3⟩ := down_loop (r := r) (m0 := m0) (j := j) (c := s.next) (lv := lv) (x := x) (ro := false) hL hj hne hnr (fun a b c d e q e2 => hlr a b c d e q (by rw [e2]; simp)) (fun q hq y hy e => by
        have hn := (List.nodup_cons.1 (List.nodup_cons.1 h.nodup).2).1
        exact hn (by rw [← e]; exact List.mem_flatten.2 ⟨_, List.mem_map.2 ⟨q, hq, rfl⟩, hy⟩)) (k + 1) (k + 6) (j + 1) s2 z2 (by rw [hrow]; exact z3) h2.parts ((i2.get _ n1).trans g1) (Nat.lt_of_lt_of_le n1 i2.next) (hll.ext i2) (by omega) (by omega) (by omega)
      rw [Nat.add_sub_cancel] at d1
      have hel : (g.L.eraseIdx j).length = g.L.length - 1 := by rw [List.length_eraseIdx, if_pos hj]
      have hd : dropA g.abs x = ({ g.abs with L := g.abs.L.eraseIdx j }, 1) := by unfold dropA; rw [q2, hgl, if_pos hj]
      refine ⟨s3, _, g.L.eraseIdx j, d1, .inr ⟨r, m0 + 1, ?_, ?_, d2, rfl⟩, List.eraseIdx_sublist _ _, (e2.frS _).trans d3 fun l hl => .inl hl, ?_, rfl⟩
      · rw [hel, show g.L.length - 1 + (m0 + 1) = g.L.length + m0 by omega]
      · exact Nat.lt_of_lt_of_le z2 d3.next
      · rw [hd]
        refine ⟨?_, by rw [hel]; omega⟩
        show _ = (g.L.map Part.abs).eraseIdx j
        apply List.ext_getElem?
        intro i
        simp only [List.getElem?_eraseIdx, List.getElem?_map]
        split <;> rfl
  obtain ⟨s3, pv3, L', d1, d2, d3, d4, d5, d6⟩ := hdel
  have hgr : gid ∉ rr := fun q => (List.nodup_cons.1 h.nodup).1 (List.mem_append_left _ q)
  have hg3 : s3.get gid = .cells (gcells g pv) false := (d4.get gid hst0 hgr).trans h.st
  have hst := fun {α : Type} (f : Store → Option α) => g_st (j := 0 + 3) (v := pv3) hg3 (gcells_len _ pv h.cnt) (by decide) d6 f
  have hset : (gcells g pv).set (0 + 3) pv3 = gcells { g with L := L' } pv3 := rfl
  have hG : IsG (s3.set gid (.cells (gcells { g with L := L' } pv3) false)) gid { g with L := L' } pv3 rr := by
    have hn := List.nodup_cons.1 h.nodup
    have hn2 := List.nodup_append.1 hn.2
    have hsub := rows_sub d3
    refine ⟨by rw [get_set, if_pos rfl], d2.keep (Nat.le_refl _) fun y hy => by
      have hyg : ¬ y = gid := fun e => hgr (by rw [← e]; exact hy)
      rw [get_set, if_neg hyg], ?_, fun q hq => ?_, Nat.lt_of_lt_of_le h.lt d4.next, h.cnt⟩
    · refine List.nodup_cons.2 ⟨fun q => hn.1 ?_, List.nodup_append.2 ⟨hn2.1, hn2.2.1.sublist hsub, fun a ha b hb => hn2.2.2 a ha b (hsub.subset hb)⟩⟩
      rcases List.mem_append.1 q with q | q
      · exact List.mem_append_left _ q
      · exact List.mem_append_right _ (hsub.subset q)
    · have hq' := d3.subset hq
      refine (h.parts q hq').keep d4.next fun y hy => ?_
      have hy2 : y ∈ (g.L.map Part.rows).flatten := List.mem_flatten.2 ⟨_, List.mem_map.2 ⟨q, hq', rfl⟩, hy⟩
      rw [get_set, if_neg (fun e => hn.1 (by rw [← e]; exact List.mem_append_right _ hy2))]
      exact d4.get y ((h.parts q hq').lt y hy) fun q2 => hn2.2.2 y q2 y hy2 rfl
  have ldp' : ∀ {α : Type} (f1 : AV → Option α), aLoad1 (.ptr gid (0 + 3) 12) (s3.set gid (.cells (gcells { g with L := L' } pv3) false)) f1 = f1 pv3 := fun f1 => g_ld hG.st (gcells_len _ pv3 hG.cnt) rfl f1
  have hlen' := fun {α : Type} (c : AV → Option α) => hG.ptrs.len c
  have hws : IntKind.i64.wrap (((g.L.length : Nat) : Int) - ((L'.length : Nat) : Int)) = ((dropA g.abs x).2 : Nat) := by rw [w_i64 (by omega) (by omega)]; omega
  simp only [d1, bnd, guard_tt, guard_ff, guard_tf, guard_ft, pick_t, pick_f, if_t, if_f, add_i, sub_i, lss_i, leq_i, gtr_i, geq_i, eql_i, neq_i, min_i, max_i, conv_i, len_sl, len_nil, not_b, cells_agg, new_s, fld_p, nil_p, hst, hset, ldp', hlen', hws]
  refine ⟨_, { g with L := L' }, pv3, rfl, hG, ?_, ⟨d4.next, fun l hl hn => ?_⟩, fun y hy => (rows_sub d3).subset hy⟩
  · show (⟨g.chunk, g.most, g.room, L'.map Part.abs, g.wanted, g.counts⟩ : AG) = _
    rw [d5.1]
    unfold dropA
    split <;> rfl
  · rw [get_set, if_neg (fun e => hn (by simp [e]))]
    exact d4.get l hl fun q => hn (by simp [q])

/-- The first chunk that the part of an id lacks. -/
def firstA (g : AG) (x : Int × Int) : Nat := match g.L[findA x g.L]? with
  | some q => (restW q.W q.n 0).headD 0
  | none => 0
theorem first_run (h : IsG s gid g pv rr) (ht : HasTab s) (hL : g.L.length ≤ 1000000) (x : Int × Int) (hopen : ∀ q ∈ g.L, restW q.W q.n 0 ≠ [] ∧ q.n ≤ 1048576) (k : Nat) (hk : g.L.length < k) (hk2 : 1048576 ≤ k) :
    ∃ s', rn (k + 4) 16 [.ptr gid 0 12, .agg [.int .u8 x.1, .int .u64 x.2]] s = some (.int .i64 (firstA g.abs x : Nat), s') ∧ Ext s s' := by
  rw [show k + 4 = (k + 3) + 1 from rfl, gather_Gather_First.eq]
  unfold gather_Gather_First.f gather_Gather_First.p0
  have e1 := Ext.push s (.cells [.int .u8 x.1, .int .u64 x.2] false)
  have g1 : (s.push (.cells [.int .u8 x.1, .int .u64 x.2] false)).get s.next = .cells [.int .u8 x.1, .int .u64 x.2] false := by rw [get_push, if_pos rfl]
  have hl1 : [AV.int .u8 x.1, AV.int .u64 x.2].length = 2 := rfl
  simp only [cells_agg, new_s, hl1]
  generalize s.push (.cells [.int .u8 x.1, .int .u64 x.2] false) = s1 at e1 g1 ⊢
  have ldx : ∀ {α : Type} (c : AV → Option α), aLoadN 2 (.ptr s.next 0 2) s1 c = c (.agg [.int .u8 x.1, .int .u64 x.2]) := fun {α} c => load_n g1 rfl (by show 0 + 2 ≤ 2; decide)
  have h1 := h.ext e1
  obtain ⟨s2, f1, f2⟩ := find_run h1 hL x k hk
  have e2 := e1.trans f2
  have h2 := h.ext e2
  simp only [bnd, guard_tt, guard_ff, guard_tf, guard_ft, pick_t, pick_f, if_t, if_f, add_i, sub_i, lss_i, leq_i, gtr_i, geq_i, eql_i, neq_i, min_i, max_i, conv_i, len_sl, len_nil, not_b, cells_agg, new_s, fld_p, nil_p, eq_pn, ldx, f1]
  rcases findI_abs x g with ⟨q1, q2, _⟩ | ⟨j, hj, q1, q2, q3⟩
  · have hf : firstA g.abs x = 0 := by
      unfold firstA
      rw [q2, show g.abs.L[g.L.length]? = none by simp [GS.abs]]
    have hz : decide ((-1 : Int) < 0) = true := rfl
    simp only [q1, bnd, guard_tt, guard_ff, guard_tf, guard_ft, pick_t, pick_f, if_t, if_f, add_i, sub_i, lss_i, leq_i, gtr_i, geq_i, eql_i, neq_i, min_i, max_i, conv_i, len_sl, len_nil, not_b, cells_agg, new_s, fld_p, nil_p, hz, hf]
    exact ⟨s2, rfl, e2⟩
  · have hf : firstA g.abs x = (restW g.L[j].W g.L[j].n 0).headD 0 := by
      unfold firstA
      rw [q2, show g.abs.L[j]? = some g.L[j].abs by simp [GS.abs, hj]]
      rfl
    have hz : decide ((j : Int) < 0) = false := decide_eq_false (by omega)
    obtain ⟨r, ep, a1, a2⟩ := h2.ptrs.at hj
    have hq := h2.parts _ (List.getElem_mem hj)
    have ldp : ∀ {α : Type} (f1 : AV → Option α), aLoad1 (.ptr gid (0 + 3) 12) s2 f1 = f1 pv := fun f1 => g_ld h2.st (gcells_len _ pv h.cnt) rfl f1
    have l0 : ∀ {α : Type} (c : AV → Option α), aLoad1 (.ptr g.L[j].p (0 + 0) 4) s2 c = c (.ptr g.L[j].sid 0 2) := fun c => g_ld hq.st rfl rfl c
    have ho := hopen _ (List.getElem_mem hj)
    obtain ⟨v', s3, m1, m2, m3⟩ := bits_miss hq.set (ht.ext e2) 0 1 (by decide) (k + 1) (by omega)
    have m1' : rn (k + 3) 41 [.ptr g.L[j].sid 0 2, .int .i64 0, .int .i64 1] s2 = some (v', s3) := m1
    have hm : (restW g.L[j].W g.L[j].n (max (0 : Int) 0).toNat).take (1 : Int).toNat = [(restW g.L[j].W g.L[j].n 0).headD 0] := by
      show (restW g.L[j].W g.L[j].n 0).take 1 = _
      cases hr : restW g.L[j].W g.L[j].n 0 with
      | nil => exact absurd hr ho.1
      | cons a l => rfl
    rw [hm] at m2
    obtain ⟨p, p1, p2⟩ := atV m2.is (i := 0) (Int.le_refl _) (by simp [ci])
    have p1' : ∀ {α : Type} (c : AV → Option α), aIndexSl 1 v' (.int .i64 0) c = c p := fun c => p1 .i64 c
    simp only [q1, bnd, guard_tt, guard_ff, guard_tf, guard_ft, pick_t, pick_f, if_t, if_f, add_i, sub_i, lss_i, leq_i, gtr_i, geq_i, eql_i, neq_i, min_i, max_i, conv_i, len_sl, len_nil, not_b, cells_agg, new_s, fld_p, nil_p, hz, ldp, a1, a2, Part.ptr, l0, m1', p1', p2, hf]
    exact ⟨s3, rfl, e2.trans m3⟩
theorem count_run' (h : IsG s gid g pv rr) {w : Int} (hw : 0 ≤ w ∧ w < 256) (k : Nat) : rn (k + 1) 18 [.ptr gid 0 12, .int .u8 w] s = some (.int .i64 (if 1 ≤ w ∧ w ≤ 5 then g.counts.getD w.toNat 0 else 0), s) := by
  rw [gather_Gather_Count.eq]
  unfold gather_Gather_Count.f gather_Gather_Count.p0
  have hwi : IntKind.i64.wrap w = w := w_i64 (by omega) (by omega)
  simp only [bnd, guard_tt, guard_ff, guard_tf, guard_ft, pick_t, pick_f, if_t, if_f, add_i, sub_i, lss_i, leq_i, gtr_i, geq_i, eql_i, neq_i, min_i, max_i, conv_i, len_sl, len_nil, not_b, cells_agg, new_s, fld_p, nil_p, eq_pn]
  by_cases h0 : w = 0
  · have : (w == 0) = true := by simpa using h0
    simp only [this, bnd, guard_tt, guard_ff, guard_tf, guard_ft, pick_t, pick_f, if_t, if_f, add_i, sub_i, lss_i, leq_i, gtr_i, geq_i, eql_i, neq_i, min_i, max_i, conv_i, len_sl, len_nil, not_b, cells_agg, new_s, fld_p, nil_p, guard_skip]
    rw [if_neg (by omega)]
  have h0' : (w == 0) = false := by simpa using h0
  simp only [h0', bnd, guard_tt, guard_ff, guard_tf, guard_ft, pick_t, pick_f, if_t, if_f, add_i, sub_i, lss_i, leq_i, gtr_i, geq_i, eql_i, neq_i, min_i, max_i, conv_i, len_sl, len_nil, not_b, cells_agg, new_s, fld_p, nil_p, hwi]
  by_cases h6 : w ≥ 6
  · simp only [decide_eq_true h6, bnd, guard_tt, guard_ff, guard_tf, guard_ft, pick_t, pick_f, if_t, if_f, add_i, sub_i, lss_i, leq_i, gtr_i, geq_i, eql_i, neq_i, min_i, max_i, conv_i, len_sl, len_nil, not_b, cells_agg, new_s, fld_p, nil_p]
    rw [if_neg (by omega)]
  simp only [decide_eq_false h6, bnd, guard_tt, guard_ff, guard_tf, guard_ft, pick_t, pick_f, if_t, if_f, add_i, sub_i, lss_i, leq_i, gtr_i, geq_i, eql_i, neq_i, min_i, max_i, conv_i, len_sl, len_nil, not_b, cells_agg, new_s, fld_p, nil_p, index_arr (show (0 : Int) ≤ w by omega) (show w < (6 : Nat) by omega)]
  have hv : (gcells g pv)[0 + 6 + w.toNat * 1]? = some (.int .i64 (g.counts.getD w.toNat 0)) := by
    rw [Nat.mul_one, Nat.zero_add, gcells, List.getElem?_append_right (by simp), List.getElem?_map]
    have : g.counts[6 + w.toNat - 6]? = some (g.counts.getD w.toNat 0) := by
      rw [show 6 + w.toNat - 6 = w.toNat by omega, List.getD_eq_getElem?_getD, List.getElem?_eq_getElem (by rw [h.cnt]; omega)]; rfl
    show Option.map _ (g.counts[6 + w.toNat - 6]?) = _
    rw [this]; rfl
  simp only [g_ld h.st (gcells_len g pv h.cnt) hv]
  rw [if_pos (by omega)]
end Go.Proofs.YtmkdpenpfkmfpaaDoor.Sim
