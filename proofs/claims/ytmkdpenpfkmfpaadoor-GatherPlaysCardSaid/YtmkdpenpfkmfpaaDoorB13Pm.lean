/- Layer 13: the law GatherPlays: what is looked at behind each act. No condition. -/
import Derived.Test.YtmkdpenpfkmfpaaDoorB13Pl
namespace Go.Proofs.YtmkdpenpfkmfpaaDoor.Sim
set_option linter.unusedSimpArgs false
set_option linter.unusedVariables false
variable {s s' : Store} {gid : Nat} {g : GS} {pv : AV} {rr : List Nat}

theorem ids_loop13 (lo : Nat) (k : Nat) : ∀ (m i : Nat) (s : Store) (v : AV), i ≤ g.L.length → g.L.length - i < m → g.L.length ≤ 1000000 → Ptrs s pv g.L rr → (∀ q ∈ g.L, PartAt s q) → (∀ r ∈ rr, r < lo) → (∀ q ∈ g.L, ∀ r ∈ q.rows, r < lo) → OwnL idc 2 s v ((g.L.take i).map (·.id)) lo → lo ≤ s.next →
    ∃ v' s', gather_Gather_IDs.l0 k m v pv (.int .i64 (g.L.length : Nat)) (.int .i64 (i : Int)) s = some (v', s') ∧ OwnL idc 2 s' v' (g.L.map (·.id)) lo ∧ ExtLo lo s s'
  | 0, i, s, v, _, hm, _, _, _, _, _, _, _ => by omega
  | m + 1, i, s, v, hi, hm, hL, hp, hq, hr, hrw, hv, hlo => by
    have hs : gather_Gather_IDs.l0 k (m + 1) = fun x3 x11 x12 x13 s => gather_Gather_IDs.p4 k (gather_Gather_IDs.l0 k m) x3 x11 x12 x13 s := rfl
    rw [hs]
    clear hs
    simp only
    unfold gather_Gather_IDs.p4 gather_Gather_IDs.p3 gather_Gather_IDs.p2 gather_Gather_IDs.p1 gather_Gather_IDs.p0
    by_cases hlt : i < g.L.length
    · obtain ⟨r, ep, a1, a2⟩ := hp.at hlt
      have hq1 := hq _ (List.getElem_mem hlt)
      have l1 : ∀ {α : Type} (c : AV → Option α), aLoadN 2 (.ptr g.L[i].p (0 + 1) 4) s c = c (.agg [.int .u8 g.L[i].id.1, .int .u64 g.L[i].id.2]) := fun c => load_n hq1.st rfl (by show 0 + 1 + 2 ≤ 4; decide)
      have hb : ∀ {α : Type} (f : List AV → Option α), aBuild [(0, 2, .agg [.int .u8 g.L[i].id.1, .int .u64 g.L[i].id.2])] [AV.int .u8 0, AV.int .u64 0] f = f (idc g.L[i].id) := fun f => rfl
      obtain ⟨v1, s1, b1, b2, b3⟩ := app_ownL (c := idc) (es := 2) (bytes := 16) (fun _ => rfl) (by decide) (by decide) hv hlo g.L[i].id (by rw [List.length_map, List.length_take]; omega)
      have hw : IntKind.i64.wrap ((i : Int) + 1) = ((i + 1 : Nat) : Int) := by rw [w_i64 (by omega) (by omega)]; omega
      have htake : (g.L.take i).map (·.id) ++ [g.L[i].id] = (g.L.take (i + 1)).map (·.id) := by
        rw [List.take_succ_eq_append_getElem hlt, List.map_append]; rfl
      rw [htake] at b2
      obtain ⟨v2, s2, c1, c2, c3⟩ := ids_loop13 lo k m (i + 1) s1 v1 (by omega) (by omega) hL (hp.keep b3.next fun r hx => b3.get r (hr r hx)) (fun q hx => (hq q hx).keep b3.next fun r hy => b3.get r (hrw q hx r hy)) hr hrw b2 (Nat.le_trans hlo b3.next)
      simp only [bnd, guard_tt, guard_ff, guard_tf, guard_ft, pick_t, pick_f, if_t, if_f, add_i, sub_i, lss_i, leq_i, gtr_i, geq_i, eql_i, neq_i, min_i, max_i, conv_i, len_sl, len_nil, not_b, cells_agg, new_s, fld_p, nil_p, decide_eq_true (show (i : Int) < ((g.L.length : Nat) : Int) by omega), a1, a2, Part.ptr, l1, hb, b1, hw, c1]
      exact ⟨v2, s2, rfl, c2, b3.trans c3⟩
    · simp only [bnd, guard_tt, guard_ff, guard_tf, guard_ft, pick_t, pick_f, if_t, if_f, add_i, sub_i, lss_i, leq_i, gtr_i, geq_i, eql_i, neq_i, min_i, max_i, conv_i, len_sl, len_nil, not_b, cells_agg, new_s, fld_p, nil_p, decide_eq_false (show ¬ (i : Int) < ((g.L.length : Nat) : Int) by omega)]
      have hi2 : g.L.take i = g.L := List.take_of_length_le (by omega)
      rw [hi2] at hv
      exact ⟨v, s, rfl, hv, ExtLo.refl _ _⟩
theorem ids_run13 (h : IsG s gid g pv rr) (hL : g.L.length ≤ 1000000) (k : Nat) (hk : g.L.length < k) : ∃ v s', rn (k + 1) 20 [.ptr gid 0 12] s = some (v, s') ∧ OwnL idc 2 s' v (g.L.map (·.id)) s.next ∧ Ext s s' := by
  rw [gather_Gather_IDs.eq]
  unfold gather_Gather_IDs.f gather_Gather_IDs.p10 gather_Gather_IDs.p9 gather_Gather_IDs.p8 gather_Gather_IDs.p7 gather_Gather_IDs.p5
  have ldp : ∀ {α : Type} (f1 : AV → Option α), aLoad1 (.ptr gid (0 + 3) 12) s f1 = f1 pv := fun f1 => g_ld h.st (gcells_len _ pv h.cnt) rfl f1
  have hrl := h.rows_lt
  obtain ⟨v, s1, a1, a2, a3⟩ := ids_loop13 s.next k k 0 s .nilsl (Nat.zero_le _) (by omega) hL h.ptrs h.parts (fun r hr => hrl r (by simp [hr])) (fun q hq r hr => (h.parts q hq).lt r hr) (OwnL.nil _ _ _ _) (Nat.le_refl _)
  simp only [bnd, guard_tt, guard_ff, guard_tf, guard_ft, pick_t, pick_f, if_t, if_f, add_i, sub_i, lss_i, leq_i, gtr_i, geq_i, eql_i, neq_i, min_i, max_i, conv_i, len_sl, len_nil, not_b, cells_agg, new_s, fld_p, nil_p, eq_pn, Bool.not_false, ldp, h.ptrs.len]
  exact ⟨v, s1, a1, a2, ⟨a3.next, fun l hl => a3.get l hl⟩⟩

/-! ### acts -/
abbrev Act13 := Int × Frm × List Int
def acells (a : Act13) : List AV := .int .i64 a.1 :: a.2.1.cells
structure IsAct13 (s : Store) (c : List AV) (a : Act13) : Prop where
  eq : c = acells a
  fr : IsFr s a.2.1.cells a.2
def IsActs13 (s : Store) (v : AV) (A : List Act13) : Prop := ∃ css : List {c : List AV // c.length = 17}, IsL Subtype.val 17 s v css ∧ A.length = css.length ∧ ∀ (i : Nat) (h : i < css.length) (h' : i < A.length), IsAct13 s css[i].val A[i]
theorem IsActs13.ext {v : AV} {A : List Act13} (h : IsActs13 s v A) (e : Ext s s') : IsActs13 s' v A := by
  obtain ⟨css, h1, h2, h3⟩ := h
  exact ⟨css, h1.ext e, h2, fun i q q' => ⟨(h3 i q q').eq, (h3 i q q').fr.ext e⟩⟩
theorem IsActs13.len {v : AV} {A : List Act13} (h : IsActs13 s v A) {α : Type} (f : AV → Option α) : aLen v f = f (.int .i64 A.length) := by
  obtain ⟨css, h1, h2, h3⟩ := h
  rw [lenL h1, h2]
theorem IsActs13.at {v : AV} {A : List Act13} (h : IsActs13 s v A) {i : Nat} (hi : i < A.length) : ∃ p, (∀ {α : Type} (k : IntKind) (f : AV → Option α), aIndexSl 17 v (.int k (i : Int)) f = f p) ∧ (∀ {α : Type} (f : AV → Option α), aLoadN 17 p s f = f (.agg (acells A[i]))) ∧ IsFr s A[i].2.1.cells A[i].2 := by
  obtain ⟨css, h1, h2, h3⟩ := h
  have hi' : i < css.length := by omega
  obtain ⟨p, p1, p2⟩ := elemL (fun x => x.2) h1 hi'
  have ha := h3 i hi' hi
  exact ⟨p, p1, fun f => by rw [p2, ha.eq], ha.fr⟩
abbrev shAct13 := shPair (shInt .i64) shFrm
theorem put_acts13 (o : _) (s : Store) (hw : (shSlice shAct13).wf o) : ∃ v A, ((shSlice shAct13).put o s).1 = [v] ∧ IsActs13 ((shSlice shAct13).put o s).2 v A ∧ Ext s ((shSlice shAct13).put o s).2 := by
  obtain ⟨v, css, A, k1, k2, k3, k4, k5, _⟩ := put_slice (m := 17) (Rel := IsAct13) (S := shAct13) rfl (fun s s' c b h e => ⟨h.eq, h.fr.ext e⟩) (fun x s hx => by
    obtain ⟨k, x⟩ := x
    obtain ⟨x1, x2⟩ := hx
    obtain ⟨f, h1, h2, h3⟩ := put_frm x s x2
    refine ⟨(k, f), ⟨?_, ?_⟩, h2, ?_⟩
    · show [AV.int .i64 k] ++ (shFrm.put x s).1 = _
      rw [h1.eq]; rfl
    · exact h1.eq ▸ h1
    · show ([AV.int .i64 k] ++ (shFrm.put x s).1).length = 17
      rw [List.length_append, h3]; rfl) o s hw
  exact ⟨v, A, k1, ⟨css, k2, k3, k4⟩, k5⟩
section
variable {x : Nat} {a : Act13}
theorem a_kind (h : s.get x = .cells (acells a) false) {α : Type} (f : AV → Option α) : aLoad1 (.ptr x (0 + 0) 17) s f = f (.int .i64 a.1) := g_ld h rfl rfl f
theorem a_size (h : s.get x = .cells (acells a) false) {α : Type} (f : AV → Option α) : aLoad1 (.ptr x (0 + 1 + 8) 17) s f = f (.int .u32 a.2.1.size) := g_ld h rfl rfl f
theorem a_frm (h : s.get x = .cells (acells a) false) {α : Type} (f : AV → Option α) : aLoadN 16 (.ptr x (0 + 1) 17) s f = f (.agg a.2.1.cells) := load_n (ep := 17) h rfl (by decide)
theorem a_id (h : s.get x = .cells (acells a) false) {α : Type} (f : AV → Option α) : aLoadN 2 (.ptr x (0 + 1 + 3) 17) s f = f (.agg (idc a.2.1.id)) := load_n (ep := 17) h rfl (by decide)
end
theorem great6_run' {f : Frm × List Int} (h : IsFr s f.1.cells f) (k : Nat) : ∃ b s', rn (k + 1) 8 [.agg f.1.cells] s = some (.bool b, s') ∧ Ext s s' := by
  rw [unisonref06_Great.eq]
  unfold unisonref06_Great.f unisonref06_Great.p0
  have e := Ext.push s (.cells f.1.cells false)
  have hf : (s.push (.cells f.1.cells false)).get s.next = .cells f.1.cells false := by rw [get_push, if_pos rfl]
  have hlen : f.1.cells.length = 16 := rfl
  obtain ⟨n1, n2, n3, n4, hl⟩ := h.lens
  have l1 : ∀ {γ : Type} (c : AV → Option γ), aLen f.1.c11 c = c (.int .i64 (n1 : Int)) := fun c => (hl c).1
  have l2 : ∀ {γ : Type} (c : AV → Option γ), aLen f.1.c12 c = c (.int .i64 (n2 : Int)) := fun c => (hl c).2.1
  have l3 : ∀ {γ : Type} (c : AV → Option γ), aLen f.1.c13 c = c (.int .i64 (n3 : Int)) := fun c => (hl c).2.2.1
  have l4 : ∀ {γ : Type} (c : AV → Option γ), aLen f.1.c14 c = c (.int .i64 (n4 : Int)) := fun c => (hl c).2.2.2
  have l5 := fun {γ : Type} (c : AV → Option γ) => lenV h.dat c
  have d1 : ∀ {α : Type} (c : AV → Option α), aLoad1 (.ptr s.next (0 + 11) 16) (s.push (.cells f.1.cells false)) c = c f.1.c11 := fun c => g_ld hf rfl rfl c
  have d2 : ∀ {α : Type} (c : AV → Option α), aLoad1 (.ptr s.next (0 + 12) 16) (s.push (.cells f.1.cells false)) c = c f.1.c12 := fun c => g_ld hf rfl rfl c
  have d3 : ∀ {α : Type} (c : AV → Option α), aLoad1 (.ptr s.next (0 + 13) 16) (s.push (.cells f.1.cells false)) c = c f.1.c13 := fun c => g_ld hf rfl rfl c
  have d4 : ∀ {α : Type} (c : AV → Option α), aLoad1 (.ptr s.next (0 + 14) 16) (s.push (.cells f.1.cells false)) c = c f.1.c14 := fun c => g_ld hf rfl rfl c
  have d5 : ∀ {α : Type} (c : AV → Option α), aLoad1 (.ptr s.next (0 + 15) 16) (s.push (.cells f.1.cells false)) c = c f.1.dv := fun c => g_ld hf rfl rfl c
  simp only [cells_agg, new_s, hlen, bnd, guard_tt, guard_ff, guard_tf, guard_ft, pick_t, pick_f, if_t, if_f, add_i, sub_i, lss_i, leq_i, gtr_i, geq_i, eql_i, neq_i, min_i, max_i, conv_i, len_sl, len_nil, not_b, cells_agg, new_s, fld_p, nil_p, d1, l1]
  cases decide ((n1 : Int) > 100)
  rotate_left
  · simp only [bnd, guard_tt, guard_ff, guard_tf, guard_ft, pick_t, pick_f, if_t, if_f, add_i, sub_i, lss_i, leq_i, gtr_i, geq_i, eql_i, neq_i, min_i, max_i, conv_i, len_sl, len_nil, not_b, cells_agg, new_s, fld_p, nil_p, guard_skip]
    exact ⟨_, _, rfl, e⟩
  simp only [bnd, guard_tt, guard_ff, guard_tf, guard_ft, pick_t, pick_f, if_t, if_f, add_i, sub_i, lss_i, leq_i, gtr_i, geq_i, eql_i, neq_i, min_i, max_i, conv_i, len_sl, len_nil, not_b, cells_agg, new_s, fld_p, nil_p, d2, l2]
  cases decide ((n2 : Int) > 100)
  rotate_left
  · simp only [bnd, guard_tt, guard_ff, guard_tf, guard_ft, pick_t, pick_f, if_t, if_f, add_i, sub_i, lss_i, leq_i, gtr_i, geq_i, eql_i, neq_i, min_i, max_i, conv_i, len_sl, len_nil, not_b, cells_agg, new_s, fld_p, nil_p, guard_skip]
    exact ⟨_, _, rfl, e⟩
  simp only [bnd, guard_tt, guard_ff, guard_tf, guard_ft, pick_t, pick_f, if_t, if_f, add_i, sub_i, lss_i, leq_i, gtr_i, geq_i, eql_i, neq_i, min_i, max_i, conv_i, len_sl, len_nil, not_b, cells_agg, new_s, fld_p, nil_p, d3, l3]
  cases decide ((n3 : Int) > 100)
  rotate_left
  · simp only [bnd, guard_tt, guard_ff, guard_tf, guard_ft, pick_t, pick_f, if_t, if_f, add_i, sub_i, lss_i, leq_i, gtr_i, geq_i, eql_i, neq_i, min_i, max_i, conv_i, len_sl, len_nil, not_b, cells_agg, new_s, fld_p, nil_p, guard_skip]
    exact ⟨_, _, rfl, e⟩
  simp only [bnd, guard_tt, guard_ff, guard_tf, guard_ft, pick_t, pick_f, if_t, if_f, add_i, sub_i, lss_i, leq_i, gtr_i, geq_i, eql_i, neq_i, min_i, max_i, conv_i, len_sl, len_nil, not_b, cells_agg, new_s, fld_p, nil_p, d4, l4]
  cases decide ((n4 : Int) > 100)
  rotate_left
  · simp only [bnd, guard_tt, guard_ff, guard_tf, guard_ft, pick_t, pick_f, if_t, if_f, add_i, sub_i, lss_i, leq_i, gtr_i, geq_i, eql_i, neq_i, min_i, max_i, conv_i, len_sl, len_nil, not_b, cells_agg, new_s, fld_p, nil_p, guard_skip]
    exact ⟨_, _, rfl, e⟩
  simp only [bnd, guard_tt, guard_ff, guard_tf, guard_ft, pick_t, pick_f, if_t, if_f, add_i, sub_i, lss_i, leq_i, gtr_i, geq_i, eql_i, neq_i, min_i, max_i, conv_i, len_sl, len_nil, not_b, cells_agg, new_s, fld_p, nil_p, d5, l5]
  exact ⟨_, _, rfl, e⟩

/-! ### what the law keeps -/
structure PS (s0 s : Store) (gid : Nat) (g : GS) (pv : AV) (rr : List Nat) (x14 : Nat) (lv : AV) (L : List PE) (i : Nat) : Prop where
  ext : Ext s0 s
  isG : IsG s gid g pv rr
  far : ∀ x ∈ gid :: (rr ++ (g.L.map Part.rows).flatten), s0.next ≤ x ∧ x ≠ x14
  m : s.get x14 = .cells (mcells g.abs lv) false
  lo : s0.next ≤ x14 ∧ x14 < s.next
  rg : RG s lv g.abs L
  off : Off (fun y => y ≠ x14 ∧ y ∉ gid :: (rr ++ (g.L.map Part.rows).flatten)) lv L
  inv : InvA g.abs
  len : g.L.length ≤ i
theorem PS.ext' {s0 s1 : Store} {x14 : Nat} {lv : AV} {L : List PE} {i : Nat} (h : PS s0 s gid g pv rr x14 lv L i) (e : Ext s s1) : PS s0 s1 gid g pv rr x14 lv L i :=
  ⟨h.ext.trans e, h.isG.ext e, h.far, (e.get _ h.lo.2).trans h.m, ⟨h.lo.1, Nat.lt_of_lt_of_le h.lo.2 e.next⟩, h.rg.ext e, h.off, h.inv, h.len⟩
theorem RG.lt {lv : AV} {a : AG} {L : List PE} (h : RG s lv a L) : Off (fun y => y < s.next) lv L := by
  have hfar : ∀ {β : Type} {c : β → List AV} {es : Nat} {v : AV} {l : List β}, IsL c es s v l → ∀ i b c d g, v = .sl i b c d g → i < s.next := fun hv i b c d g q => by
    rcases hv with ⟨q1, _⟩ | ⟨id, ro, q1, q2, _⟩
    · rw [q1] at q; cases q
    · rw [q1] at q
      injection q with q
      omega
  refine ⟨fun i b c d g q => hfar h.l _ _ _ _ _ q, fun e he => ?_⟩
  obtain ⟨hs, cs, q⟩ := h.each e he
  exact ⟨fun i b c d g q2 => hfar q.h _ _ _ _ _ q2, fun i b c d g q2 => hfar q.c _ _ _ _ _ q2⟩

/-- All that is looked at behind an act is the same. -/
theorem look_run {s0 : Store} {x10 x14 x16 : Nat} {v3 lv : AV} {L : List PE} {i j : Nat} {a : Act13} {id : Int × Int} {what : Int} (h : PS s0 s gid g pv rr x14 lv L i) (hi : i ≤ 1000) (ht : HasTab s) (h10 : s.get x10 = .cells (idc id) false) (hl10 : x10 < s.next) (h16 : s.get x16 = .cells (acells a) false) (hl16 : x16 < s.next) (hw : 0 ≤ what ∧ what < 256) (fu : Nat) (hfu : 1048577 < fu) (R0 : AV → AV → AV → AV → AV → AV → Store → Option (AV × Store)) :
    ∃ s', unisonlaw13_GatherPlays.p5 (fu + 9) R0 v3 (.int .u8 what) (.ptr x10 0 2) (.ptr gid 0 12) (.ptr x14 0 12) (.int .i64 (j : Int)) (.ptr x16 0 17) s = unisonlaw13_GatherPlays.p1 (fu + 9) R0 v3 (.int .u8 what) (.ptr x10 0 2) (.ptr gid 0 12) (.ptr x14 0 12) (.int .i64 (j : Int)) s' ∧ Ext s s' := by
  have hcn : g.abs.counts.length = 6 := h.inv.cnt
  have hLl : L.length = g.L.length := by rw [h.rg.len]; simp [GS.abs]
  have hlen := h.len
  have hbq : ∀ q ∈ g.abs.L, q.b.length ≤ 1048576 := fun q hq => (h.inv.fit q hq).size
  have hopen : ∀ q ∈ g.L, restW q.W q.n 0 ≠ [] ∧ q.n ≤ 1048576 := fun q hq => by
    have hm : q.abs ∈ g.abs.L := List.mem_map.2 ⟨q, hq, rfl⟩
    exact ⟨open_rest (h.inv.fit _ hm) (h.inv.open_ _ hm), (h.inv.fit _ hm).top h.inv.chunk⟩
  have hnn : ∀ q ∈ g.abs.L, q.n ≤ 1048576 := fun q hq => (h.inv.fit q hq).top h.inv.chunk
  have ldi : ∀ {t : Store}, Ext s t → ∀ {α : Type} (c : AV → Option α), aLoadN 2 (.ptr x10 0 2) t c = c (.agg (idc id)) := fun {t} e {α} c => load_n ((e.get _ hl10).trans h10) rfl (by show 0 + 2 ≤ 2; decide)
  have lda : ∀ {t : Store}, Ext s t → ∀ {α : Type} (c : AV → Option α), aLoadN 2 (.ptr x16 (0 + 1 + 3) 17) t c = c (.agg (idc a.2.1.id)) := fun {t} e {α} c => a_id ((e.get _ hl16).trans h16) c
  have mall : ∀ {t : Store}, Ext s t → ∀ {α : Type} (c : AV → Option α), aLoadN 12 (.ptr x14 0 12) t c = c (.agg (mcells g.abs lv)) := fun {t} e {α} c => m_all ((e.get _ h.lo.2).trans h.m) hcn c
  have hu := used_run h.isG (by omega) (fu + 8) (by omega)
  have hu' : rn (fu + 9) 14 [.ptr gid 0 12] s = some (.int .i64 (usedL g.L : Nat), s) := hu
  obtain ⟨s1, a1, a2⟩ := rused_run h.rg (by omega) hbq (fu + 8) (by omega)
  have a1' : rn (fu + 9) 15 [.agg (mcells g.abs lv)] s = _ := a1
  have huA : usedA g.abs.L = usedL g.L := usedA_abs g.L
  have h1 := h.ext' a2
  obtain ⟨s2, b1, b2⟩ := first_run h1.isG (ht.ext a2) (by omega) id hopen (fu + 5) (by omega) (by omega)
  have b1' : rn (fu + 9) 16 [.ptr gid 0 12, .agg (idc id)] s1 = _ := b1
  have e2 := a2.trans b2
  have h2 := h.ext' e2
  obtain ⟨s3, c1, c2⟩ := rfirst_run h2.rg (by omega) id hnn (fu + 7) (by omega) (by omega)
  have c1' : rn (fu + 9) 17 [.agg (mcells g.abs lv), .agg (idc id)] s2 = _ := c1
  have e3 := e2.trans c2
  have h3 := h.ext' e3
  obtain ⟨s4, d1, d2⟩ := first_run h3.isG (ht.ext e3) (by omega) a.2.1.id hopen (fu + 5) (by omega) (by omega)
  have d1' : rn (fu + 9) 16 [.ptr gid 0 12, .agg (idc a.2.1.id)] s3 = _ := d1
  have e4 := e3.trans d2
  have h4 := h.ext' e4
  obtain ⟨s5, f1, f2⟩ := rfirst_run h4.rg (by omega) a.2.1.id hnn (fu + 7) (by omega) (by omega)
  have f1' : rn (fu + 9) 17 [.agg (mcells g.abs lv), .agg (idc a.2.1.id)] s4 = _ := f1
  have e5 := e4.trans f2
  have h5 := h.ext' e5
  have hc := count_run' h5.isG hw (fu + 8)
  have hc' : rn (fu + 9) 18 [.ptr gid 0 12, .int .u8 what] s5 = _ := hc
  obtain ⟨v6, s6, k1, k2, k3⟩ := ids_run13 h5.isG (by omega) (fu + 8) (by omega)
  have k1' : rn (fu + 9) 20 [.ptr gid 0 12] s5 = _ := k1
  have e6 := e5.trans k3
  have h6 := h.ext' e6
  obtain ⟨v7, s7, l1, l2, l3⟩ := rids_run h6.rg (by omega) (fu + 8) (by omega)
  have l1' : rn (fu + 9) 21 [.agg (mcells g.abs lv)] s6 = _ := l1
  have e7 := e6.trans l3
  have hidl : g.abs.L.map (·.id) = g.L.map (·.id) := by
    show (g.L.map Part.abs).map (·.id) = _
    rw [List.map_map]
    rfl
  rw [hidl] at l2
  have hs := sameids_run (k2.is.ext l3) l2 (by rw [List.length_map]; omega) (fu + 8) (by rw [List.length_map]; omega)
  have hs' : rn (fu + 9) 19 [v6, v7] s7 = _ := hs
  have nq : ∀ (n : Int), (n != n) = false := fun n => by simp
  have key : ∃ s', unisonlaw13_GatherPlays.p3 (fu + 9) R0 v3 (.int .u8 what) (.ptr x10 0 2) (.ptr gid 0 12) (.ptr x14 0 12) (.int .i64 (j : Int)) (.ptr x16 0 17) (.int .i64 (if 1 ≤ what ∧ what ≤ 5 then g.counts.getD what.toNat 0 else 0)) s = unisonlaw13_GatherPlays.p1 (fu + 9) R0 v3 (.int .u8 what) (.ptr x10 0 2) (.ptr gid 0 12) (.ptr x14 0 12) (.int .i64 (j : Int)) s' ∧ Ext s s' := by
    unfold unisonlaw13_GatherPlays.p3 unisonlaw13_GatherPlays.p2
    simp only [bnd, guard_tt, guard_ff, guard_tf, guard_ft, pick_t, pick_f, if_t, if_f, add_i, sub_i, lss_i, leq_i, gtr_i, geq_i, eql_i, neq_i, min_i, max_i, conv_i, len_sl, len_nil, not_b, cells_agg, new_s, fld_p, nil_p, hu', mall (Ext.refl s), a1', aSame_self, huA, nq, ldi a2, b1', mall e2, mall a2, ldi e2, c1', lda e3, d1', mall e4, mall e3, lda e4, f1', hc', k1', mall e6, mall e5, l1', hs', Bool.not_true]
    exact ⟨s7, rfl, e7⟩
  unfold unisonlaw13_GatherPlays.p5 unisonlaw13_GatherPlays.p4
  by_cases q1 : 1 ≤ what
  · by_cases q2 : what ≤ 5
    · rw [if_pos ⟨q1, q2⟩] at key
      have hv : (mcells g.abs lv)[0 + 6 + what.toNat * 1]? = some (.int .i64 (g.counts.getD what.toNat 0)) := by
        rw [Nat.mul_one, Nat.zero_add, mcells, List.getElem?_append_right (by simp), List.getElem?_map]
        have : g.counts[6 + what.toNat - 6]? = some (g.counts.getD what.toNat 0) := by
          rw [show 6 + what.toNat - 6 = what.toNat by omega, List.getD_eq_getElem?_getD, List.getElem?_eq_getElem (by rw [show g.counts.length = 6 from hcn]; omega)]; rfl
        show Option.map _ (g.counts[6 + what.toNat - 6]?) = _
        rw [this]; rfl
      simp only [bnd, guard_tt, guard_ff, guard_tf, guard_ft, pick_t, pick_f, if_t, if_f, add_i, sub_i, lss_i, leq_i, gtr_i, geq_i, eql_i, neq_i, min_i, max_i, conv_i, len_sl, len_nil, not_b, cells_agg, new_s, fld_p, nil_p, decide_eq_true (show what ≥ 1 from q1), decide_eq_true q2, index_arr (show (0 : Int) ≤ what by omega) (show what < (6 : Nat) by omega), g_ld h.m (mcells_len hcn) hv]
      exact key
    · rw [if_neg (by omega)] at key
      simp only [bnd, guard_tt, guard_ff, guard_tf, guard_ft, pick_t, pick_f, if_t, if_f, add_i, sub_i, lss_i, leq_i, gtr_i, geq_i, eql_i, neq_i, min_i, max_i, conv_i, len_sl, len_nil, not_b, cells_agg, new_s, fld_p, nil_p, decide_eq_true (show what ≥ 1 from q1), decide_eq_false q2]
      exact key
  · rw [if_neg (by omega)] at key
    simp only [bnd, guard_tt, guard_ff, guard_tf, guard_ft, pick_t, pick_f, if_t, if_f, add_i, sub_i, lss_i, leq_i, gtr_i, geq_i, eql_i, neq_i, min_i, max_i, conv_i, len_sl, len_nil, not_b, cells_agg, new_s, fld_p, nil_p, decide_eq_false (show ¬ what ≥ 1 from q1), guard_skip]
    exact key
end Go.Proofs.YtmkdpenpfkmfpaaDoor.Sim
