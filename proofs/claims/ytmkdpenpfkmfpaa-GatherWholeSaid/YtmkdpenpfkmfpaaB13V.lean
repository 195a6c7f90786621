/- Layer 13: a piece of a payload, as a frame; the ids of all parts. No condition. -/
import Derived.Test.YtmkdpenpfkmfpaaB13U
namespace Go.Proofs.Ytmkdpenpfkmfpaa.Sim
set_option linter.unusedSimpArgs false
set_option linter.unusedVariables false
variable {s s' : Store} {gid : Nat} {g : GS} {pv : AV} {rr : List Nat}

theorem putAll_full : ∀ (vs cs pre : List AV), vs.length = cs.length → putAll (pre ++ cs) pre.length vs = pre ++ vs
  | [], cs, pre, h => by
    have : cs = [] := List.length_eq_zero_iff.1 h.symm
    rw [this]; rfl
  | v :: vs, [], pre, h => by simp at h
  | v :: vs, c :: cs, pre, h => by
    have := putAll_full vs cs (pre ++ [v]) (by simpa using h)
    simp only [putAll]
    rw [List.set_append_right _ _ (Nat.le_refl _), Nat.sub_self, List.set_cons_zero]
    simpa using this
theorem st_all {id n : Nat} {cs vs : List AV} (h : s.get id = .cells cs false) (hc : cs.length = n) (hv : vs.length = n) {α : Type} (f : Store → Option α) : aStore n (.ptr id 0 n) (.agg vs) s f = f (s.set id (.cells vs false)) := by
  have := putAll_full vs cs [] (by omega)
  simp only [List.nil_append, List.length_nil] at this
  simp only [aStore, aCells, aOwn, h, hc, if_true]
  rw [if_pos (by omega), this]

/-- The frame of a chunk. -/
def frm1 (id : Int × Int) (at_ of size : Int) (dv : AV) : Frm := ⟨id, at_, of, size, dv, .int .u8 0, .int .u8 0, .int .u8 0, .int .u64 0, .int .u64 0, .int .u64 0, .nilsl, .nilsl, .nilsl, .nilsl⟩
theorem piece_run {id : Int × Int} {v : AV} {p : List Int} {k i : Nat} (h : IsV s v .u8 p) (hp : p.length ≤ 100000) (h1 : 1 ≤ k) (h2 : k ≤ 65536) (hi : i < countQ p.length k) (fu : Nat) (hf : p.length < fu) :
    ∃ r s', rn (fu + 2) 13 [.agg [.int .u8 id.1, .int .u64 id.2], v, .int .i64 (k : Int), .int .i64 (i : Int)] s = some (.agg (frm1 id i (countQ p.length k : Nat) p.length (.sl r 0 (cutAt p k i).length 1 (cutAt p k i).length)).cells, s') ∧
      s'.get r = .cells ((cutAt p k i).map (.int .u8)) false ∧ s.next ≤ r ∧ r < s'.next ∧ Ext s s' := by
  rw [show fu + 2 = (fu + 1) + 1 from rfl, unisonlaw13_piece.eq]
  unfold unisonlaw13_piece.f unisonlaw13_piece.p3 unisonlaw13_piece.p2
  have e1 := Ext.push s (.cells [.int .u8 id.1, .int .u64 id.2] false)
  have g1 : (s.push (.cells [.int .u8 id.1, .int .u64 id.2] false)).get s.next = .cells [.int .u8 id.1, .int .u64 id.2] false := by rw [get_push, if_pos rfl]
  have n1 : (s.push (.cells [.int .u8 id.1, .int .u64 id.2] false)).next = s.next + 1 := rfl
  have hl1 : [AV.int .u8 id.1, AV.int .u64 id.2].length = 2 := rfl
  simp only [cells_agg, new_s, hl1]
  generalize s.push (.cells [.int .u8 id.1, .int .u64 id.2] false) = s1 at e1 g1 n1 ⊢
  obtain ⟨zs, hzs⟩ : ∃ zs : List AV, zs = [AV.int .u8 0, AV.int .u8 0, AV.int .u8 0, AV.int .u8 0, AV.int .u64 0, AV.int .u64 0, AV.int .u32 0, AV.int .u32 0, AV.int .u32 0, AV.int .u64 0, AV.int .u64 0, AV.nilsl, AV.nilsl, AV.nilsl, AV.nilsl, AV.nilsl] := ⟨_, rfl⟩
  have hzl : zs.length = 16 := by rw [hzs]; rfl
  rw [← hzs, hzl]
  have e2 := Ext.push s1 (.cells zs false)
  have g2 : (s1.push (.cells zs false)).get s1.next = .cells zs false := by rw [get_push, if_pos rfl]
  have n2 : (s1.push (.cells zs false)).next = s1.next + 1 := rfl
  have g2i : (s1.push (.cells zs false)).get s.next = .cells [.int .u8 id.1, .int .u64 id.2] false := (e2.get _ (by omega)).trans g1
  generalize s1.push (.cells zs false) = s2 at e2 g2 n2 g2i ⊢
  have e12 := e1.trans e2
  obtain ⟨v', L, s3, c1, c2, c3, c4, c5⟩ := cuts_run (by omega) h1 h2 (h.ext e12) fu hf
  simp only [c1, bnd]
  unfold unisonlaw13_piece.p1 unisonlaw13_piece.p0
  have g3i : s3.get s.next = .cells [.int .u8 id.1, .int .u64 id.2] false := (c5.get _ (by omega)).trans g2i
  have ldi : ∀ {t : Store}, t.get s.next = .cells [.int .u8 id.1, .int .u64 id.2] false → ∀ {α : Type} (c : AV → Option α), aLoadN 2 (.ptr s.next 0 2) t c = c (.agg [.int .u8 id.1, .int .u64 id.2]) := fun {t} ht {α} c => load_n ht rfl (by show 0 + 2 ≤ 2; decide)
  have hiL : i < L.length := by omega
  have hcl := countQ_le (sz := p.length) h1
  have hlv := fun {α : Type} (c : AV → Option α) => lenL c2.is c
  have hlp := fun {α : Type} (c : AV → Option α) => lenV h c
  have wi : IntKind.u32.wrap (i : Int) = (i : Int) := w_u32n (by omega) (by omega)
  have wL : IntKind.u32.wrap (L.length : Int) = ((countQ p.length k : Nat) : Int) := by rw [w_u32n (by omega) (by omega), c3]
  have wp : IntKind.u32.wrap (p.length : Int) = (p.length : Int) := w_u32n (by omega) (by omega)
  have e4 := Ext.push s3 (.cells [] false)
  obtain ⟨q1, q2, q3⟩ := elemL (c := fun v => [v]) (es := 1) (fun _ => rfl) c2.is hiL
  obtain ⟨q1', q2', q3'⟩ := elemL (c := fun v => [v]) (es := 1) (fun _ => rfl) (c2.is.ext e4) hiL
  have hqq : q1' = q1 := by
    have a := q2 (α := AV) .i64 some
    have b := q2' (α := AV) .i64 some
    rw [a] at b
    injection b with b
    exact b.symm
  rw [hqq] at q3'
  have ld1 : ∀ {t : Store}, (∀ {α : Type} (f : AV → Option α), aLoadN 1 q1 t f = f (.agg [L[i]])) → ∀ {α : Type} (f : AV → Option α), aLoad1 q1 t f = f L[i] := fun {t} hq {α} f => by
    cases q1 with
    | ptr l off ep =>
      have := hq (α := AV) some
      simp only [aLoadN, aRow] at this
      simp only [aLoad1, aRow]
      cases hg : t.get l with
      | cells xs ro =>
        simp only [hg] at this
        by_cases hx : xs.length = ep
        · simp only [hx, if_true] at this
          by_cases ho : off + 1 ≤ ep
          · simp only [ho, if_true] at this
            injection this with this
            injection this with this
            have hlt : off < xs.length := by omega
            have h9 : (List.take 1 (List.drop off xs))[0]? = some L[i] := by rw [this]; rfl
            rw [List.getElem?_take, if_pos (by omega), List.getElem?_drop, Nat.add_zero] at h9
            simp only [hx, if_true, h9]
          · simp [ho] at this
        · simp [hx] at this
      | _ => simp [hg] at this
    | _ => have := hq (α := AV) some; simp [aLoadN] at this
  obtain ⟨d1, d2⟩ := c4 i hiL
  obtain ⟨s5, k1, k2, k3, k4⟩ := copyV (bytes := 1) d1 (by rw [cutAt_len]; omega) (by decide)
  have g5i := (k4.get s.next (by have := c5.next; omega)).trans g3i
  have g4i := (e4.get s.next (by have := c5.next; omega)).trans g3i
  have hx8 : s5.get s1.next = .cells zs false := (k4.get _ (by have := c5.next; omega)).trans ((c5.get _ (by omega)).trans g2)
  have hb : ∀ (a b c : Int) (l : Nat) {α : Type} (f : List AV → Option α), aBuild [(3, 2, .agg [.int .u8 id.1, .int .u64 id.2]), (6, 1, .int .u32 a), (7, 1, .int .u32 b), (8, 1, .int .u32 c), (15, 1, .sl s3.next 0 l 1 l)] zs f = f (frm1 id a b c (.sl s3.next 0 l 1 l)).cells := fun a b c l α f => by rw [hzs]; rfl
  have hst := fun (vs : List AV) (hv : vs.length = 16) {α : Type} (f : Store → Option α) => st_all (vs := vs) hx8 hzl hv f
  simp only [bnd, guard_tt, guard_ff, guard_tf, guard_ft, pick_t, pick_f, if_t, if_f, add_i, sub_i, lss_i, leq_i, gtr_i, geq_i, eql_i, neq_i, min_i, max_i, conv_i, len_sl, len_nil, not_b, cells_agg, new_s, fld_p, nil_p, ldi g3i, wi, hlv, wL, hlp, wp, build_0, ldi g4i, aSame_self, q2, ld1 q3', ld1 q3, k1, ldi g5i, ← hzs, hb]
  rw [hst _ rfl]
  have hfin : ∀ {α : Type} (vs : List AV) (hv : vs.length = 16) (f : AV → Option α), aLoadN 16 (.ptr s1.next 0 16) (s5.set s1.next (.cells vs false)) f = f (.agg vs) := fun vs hv f => by
    rw [load_n (show (s5.set s1.next (.cells vs false)).get s1.next = .cells vs false by rw [get_set, if_pos rfl]) hv (by omega), List.drop_zero, List.take_of_length_le (by omega)]
  rw [bnd, hfin _ rfl]
  have m := c5.next
  refine ⟨s3.next, _, rfl, by rw [get_set, if_neg (by omega)]; exact k2, by omega, k3, ⟨Nat.le_trans (by omega) k4.next, fun l hl => ?_⟩⟩
  rw [get_set, if_neg (by omega)]
  exact (k4.get l (by omega)).trans ((c5.get l (by omega)).trans (e12.get l hl))

/-- The cells of an id. -/
def idc (x : Int × Int) : List AV := [.int .u8 x.1, .int .u64 x.2]
theorem ids_loop (lo : Nat) (k : Nat) : ∀ (m i : Nat) (s : Store) (v : AV), i ≤ g.L.length → g.L.length - i < m → g.L.length ≤ 1000000 → Ptrs s pv g.L rr → (∀ q ∈ g.L, PartAt s q) → (∀ r ∈ rr, r < lo) → (∀ q ∈ g.L, ∀ r ∈ q.rows, r < lo) → OwnL idc 2 s v ((g.L.take i).map (·.id)) lo → lo ≤ s.next →
    ∃ v' s', gather_Gather_IDs.l0 k m v pv (.int .i64 (g.L.length : Nat)) (.int .i64 (i : Int)) s = some (v', s') ∧ OwnL idc 2 s' v' (g.L.map (·.id)) lo ∧ ExtLo lo s s'
  | 0, i, s, v, _, hm, _, _, _, _, _, _, _ => by omega
  | m + 1, i, s, v, hi, hm, hL, hp, hq, hr, hrw, hv, hlo => by
    have hs : gather_Gather_IDs.l0 k (m + 1) = fun x3 x11 x12 x13 s => gather_Gather_IDs.p4 k (gather_Gather_IDs.l0 k m) x3 x11 x12 x13 s := rfl
    rw [hs]
    clear hs
    simp only
    unfold gather_Gather_IDs.p4 gather_Gather_IDs.p3 gather_Gather_IDs.p2 gather_Gather_IDs.p1 gather_Gather_IDs.p0
    by_cases hlt : i < g.L.length
    · obtain ⟨r, ep, a1, a2⟩ := hp.at hlt
      have hq1 := hq _ (List.getElem_mem hlt)
      have l1 : ∀ {α : Type} (c : AV → Option α), aLoadN 2 (.ptr g.L[i].p (0 + 1) 4) s c = c (.agg [.int .u8 g.L[i].id.1, .int .u64 g.L[i].id.2]) := fun c => load_n hq1.st rfl (by show 0 + 1 + 2 ≤ 4; decide)
      have hb : ∀ {α : Type} (f : List AV → Option α), aBuild [(0, 2, .agg [.int .u8 g.L[i].id.1, .int .u64 g.L[i].id.2])] [AV.int .u8 0, AV.int .u64 0] f = f (idc g.L[i].id) := fun f => rfl
      obtain ⟨v1, s1, b1, b2, b3⟩ := app_ownL (c := idc) (es := 2) (bytes := 16) (fun _ => rfl) (by decide) (by decide) hv hlo g.L[i].id (by rw [List.length_map, List.length_take]; omega)
      have hw : IntKind.i64.wrap ((i : Int) + 1) = ((i + 1 : Nat) : Int) := by rw [w_i64 (by omega) (by omega)]; omega
      have htake : (g.L.take i).map (·.id) ++ [g.L[i].id] = (g.L.take (i + 1)).map (·.id) := by
        rw [List.take_succ_eq_append_getElem hlt, List.map_append]; rfl
      rw [htake] at b2
      obtain ⟨v2, s2, c1, c2, c3⟩ := ids_loop lo k m (i + 1) s1 v1 (by omega) (by omega) hL (hp.keep b3.next fun r hx => b3.get r (hr r hx)) (fun q hx => (hq q hx).keep b3.next fun r hy => b3.get r (hrw q hx r hy)) hr hrw b2 (Nat.le_trans hlo b3.next)
      simp only [bnd, guard_tt, guard_ff, guard_tf, guard_ft, pick_t, pick_f, if_t, if_f, add_i, sub_i, lss_i, leq_i, gtr_i, geq_i, eql_i, neq_i, min_i, max_i, conv_i, len_sl, len_nil, not_b, cells_agg, new_s, fld_p, nil_p, decide_eq_true (show (i : Int) < ((g.L.length : Nat) : Int) by omega), a1, a2, Part.ptr, l1, hb, b1, hw, c1]
      exact ⟨v2, s2, rfl, c2, b3.trans c3⟩
    · simp only [bnd, guard_tt, guard_ff, guard_tf, guard_ft, pick_t, pick_f, if_t, if_f, add_i, sub_i, lss_i, leq_i, gtr_i, geq_i, eql_i, neq_i, min_i, max_i, conv_i, len_sl, len_nil, not_b, cells_agg, new_s, fld_p, nil_p, decide_eq_false (show ¬ (i : Int) < ((g.L.length : Nat) : Int) by omega)]
      have hi2 : g.L.take i = g.L := List.take_of_length_le (by omega)
      rw [hi2] at hv
      exact ⟨v, s, rfl, hv, ExtLo.refl _ _⟩
theorem ids_run (h : IsG s gid g pv rr) (hL : g.L.length ≤ 1000000) (k : Nat) (hk : g.L.length < k) : ∃ v s', rn (k + 1) 14 [.ptr gid 0 12] s = some (v, s') ∧ OwnL idc 2 s' v (g.L.map (·.id)) s.next ∧ Ext s s' := by
  rw [gather_Gather_IDs.eq]
  unfold gather_Gather_IDs.f gather_Gather_IDs.p10 gather_Gather_IDs.p9 gather_Gather_IDs.p8 gather_Gather_IDs.p7 gather_Gather_IDs.p5
  have ldp : ∀ {α : Type} (f1 : AV → Option α), aLoad1 (.ptr gid (0 + 3) 12) s f1 = f1 pv := fun f1 => g_ld h.st (gcells_len _ pv h.cnt) rfl f1
  have hrl := h.rows_lt
  obtain ⟨v, s1, a1, a2, a3⟩ := ids_loop s.next k k 0 s .nilsl (Nat.zero_le _) (by omega) hL h.ptrs h.parts (fun r hr => hrl r (by simp [hr])) (fun q hq r hr => (h.parts q hq).lt r hr) (OwnL.nil _ _ _ _) (Nat.le_refl _)
  simp only [bnd, guard_tt, guard_ff, guard_tf, guard_ft, pick_t, pick_f, if_t, if_f, add_i, sub_i, lss_i, leq_i, gtr_i, geq_i, eql_i, neq_i, min_i, max_i, conv_i, len_sl, len_nil, not_b, cells_agg, new_s, fld_p, nil_p, eq_pn, Bool.not_false, ldp, h.ptrs.len]
  exact ⟨v, s1, a1, a2, ⟨a3.next, fun l hl => a3.get l hl⟩⟩
end Go.Proofs.Ytmkdpenpfkmfpaa.Sim
