/- Layer 13: First, Drop, Count. No condition. -/
import Derived.Test.YtmkdpenpfkmfpaaDoorB13U
namespace Go.Proofs.YtmkdpenpfkmfpaaDoor.Sim
set_option linter.unusedSimpArgs false
set_option linter.unusedVariables false
variable {s s' : Store} {gid : Nat} {g : GS} {pv : AV} {rr : List Nat}

def idc (x : Int × Int) : List AV := [.int .u8 x.1, .int .u64 x.2]
theorem contains_run {lv : AV} {x y : Int × Int} (h : IsL idc 2 s lv [x]) (k : Nat) : ∃ s', rn (k + 4) 40 [lv, .agg [.int .u8 y.1, .int .u64 y.2]] s = some (.bool (decide (y = x)), s') ∧ Ext s s' := by
  rw [show k + 4 = (k + 3) + 1 from rfl, api_ID.eq]
  unfold api_ID.f api_ID.p0
  have e1 := Ext.push s (.cells [.int .u8 y.1, .int .u64 y.2] false)
  have g1 : (s.push (.cells [.int .u8 y.1, .int .u64 y.2] false)).get s.next = .cells [.int .u8 y.1, .int .u64 y.2] false := by rw [get_push, if_pos rfl]
  have hl1 : [AV.int .u8 y.1, AV.int .u64 y.2].length = 2 := rfl
  simp only [cells_agg, new_s, hl1]
  have h1 := h.ext e1
  generalize s.push (.cells [.int .u8 y.1, .int .u64 y.2] false) = s1 at e1 g1 h1 ⊢
  have ldy : ∀ {α : Type} (c : AV → Option α), aLoadN 2 (.ptr s.next 0 2) s1 c = c (.agg [.int .u8 y.1, .int .u64 y.2]) := fun {α} c => load_n g1 rfl (by show 0 + 2 ≤ 2; decide)
  simp only [ldy]
  have key : ∃ s2, rn (k + 3) 53 [lv, .agg [.int .u8 y.1, .int .u64 y.2]] s1 = some (.int .i64 (if y = x then 0 else -1), s2) ∧ Ext s1 s2 := by
    rw [show k + 3 = (k + 2) + 1 from rfl, api_ID_53.eq]
    unfold api_ID_53.f api_ID_53.p8 api_ID_53.p7
    have e2 := Ext.push s1 (.cells [.int .u8 y.1, .int .u64 y.2] false)
    have g2 : (s1.push (.cells [.int .u8 y.1, .int .u64 y.2] false)).get s1.next = .cells [.int .u8 y.1, .int .u64 y.2] false := by rw [get_push, if_pos rfl]
    simp only [cells_agg, new_s, hl1]
    have h2 := h1.ext e2
    generalize s1.push (.cells [.int .u8 y.1, .int .u64 y.2] false) = s2 at e2 g2 h2 ⊢
    have ldy2 : ∀ {α : Type} (c : AV → Option α), aLoadN 2 (.ptr s1.next 0 2) s2 c = c (.agg [.int .u8 y.1, .int .u64 y.2]) := fun {α} c => load_n g2 rfl (by show 0 + 2 ≤ 2; decide)
    obtain ⟨p, p1, p2⟩ := elemL (c := idc) (es := 2) (fun _ => rfl) h2 (i := 0) (by simp)
    have p1' : ∀ {α : Type} (c : AV → Option α), aIndexSl 2 lv (.int .i64 0) c = c p := fun c => p1 .i64 c
    have p2' : ∀ {α : Type} (c : AV → Option α), aLoadN 2 p s2 c = c (.agg [.int .u8 x.1, .int .u64 x.2]) := fun c => p2 c
    have hs0 : api_ID_53.l0 (k + 2) (k + 2) = fun x0 x3 x7 x8 s => api_ID_53.p6 (k + 2) (api_ID_53.l0 (k + 2) (k + 1)) x0 x3 x7 x8 s := rfl
    have hs1 : api_ID_53.l0 (k + 2) (k + 1) = fun x0 x3 x7 x8 s => api_ID_53.p6 (k + 2) (api_ID_53.l0 (k + 2) k) x0 x3 x7 x8 s := rfl
    have hl : ∀ {α : Type} (c : AV → Option α), aLen lv c = c (.int .i64 1) := fun c => lenL h2 c
    rw [hl, hs0]
    simp only
    unfold api_ID_53.p6 api_ID_53.p5 api_ID_53.p4 api_ID_53.p3 api_ID_53.p2 api_ID_53.p1 api_ID_53.p0
    have hlt : decide ((0 : Int) < 1) = true := rfl
    simp only [lss_i, hlt, if_t, bnd, guard_tt, guard_ff, guard_tf, guard_ft, pick_t, pick_f, if_t, if_f, add_i, sub_i, lss_i, leq_i, gtr_i, geq_i, eql_i, neq_i, min_i, max_i, conv_i, len_sl, len_nil, not_b, cells_agg, new_s, fld_p, nil_p, ldy2, p1', p2', eq_id]
    by_cases he : y = x
    · simp only [decide_eq_true he, bnd, guard_tt, guard_ff, guard_tf, guard_ft, pick_t, pick_f, if_t, if_f, add_i, sub_i, lss_i, leq_i, gtr_i, geq_i, eql_i, neq_i, min_i, max_i, conv_i, len_sl, len_nil, not_b, cells_agg, new_s, fld_p, nil_p, if_pos he]
      exact ⟨_, rfl, e2⟩
    · have hw : IntKind.i64.wrap ((0 : Int) + 1) = 1 := rfl
      have hlt2 : decide ((1 : Int) < 1) = false := rfl
      simp only [decide_eq_false he, bnd, guard_tt, guard_ff, guard_tf, guard_ft, pick_t, pick_f, if_t, if_f, add_i, sub_i, lss_i, leq_i, gtr_i, geq_i, eql_i, neq_i, min_i, max_i, conv_i, len_sl, len_nil, not_b, cells_agg, new_s, fld_p, nil_p, hw, if_neg he]
      rw [hs1]
      simp only
      unfold api_ID_53.p6 api_ID_53.p5 api_ID_53.p0
      simp only [bnd, guard_tt, guard_ff, guard_tf, guard_ft, pick_t, pick_f, if_t, if_f, add_i, sub_i, lss_i, leq_i, gtr_i, geq_i, eql_i, neq_i, min_i, max_i, conv_i, len_sl, len_nil, not_b, cells_agg, new_s, fld_p, nil_p, hlt2]
      exact ⟨_, rfl, e2⟩
  obtain ⟨s2, k1, k2⟩ := key
  simp only [bnd, guard_tt, guard_ff, guard_tf, guard_ft, pick_t, pick_f, if_t, if_f, add_i, sub_i, lss_i, leq_i, gtr_i, geq_i, eql_i, neq_i, min_i, max_i, conv_i, len_sl, len_nil, not_b, cells_agg, new_s, fld_p, nil_p, k1]
  have : decide ((if y = x then (0 : Int) else -1) ≥ 0) = decide (y = x) := by
    by_cases he : y = x
    · simp [he]
    · simp [he]
  rw [this]
  exact ⟨s2, rfl, e1.trans k2⟩
theorem drop1_run {q : Part} {c : Nat} {lv : AV} {x : Int × Int} {ro : Bool} (h : PartAt s q) (hc : s.get c = .cells [lv] ro) (hl : IsL idc 2 s lv [x]) (k : Nat) : ∃ s', rn (k + 5) 39 [q.ptr, .ptr c 0 1] s = some (.bool (decide (q.id = x)), s') ∧ Ext s s' := by
  rw [show k + 5 = (k + 4) + 1 from rfl, gather_Gather_Drop_1.eq]
  unfold gather_Gather_Drop_1.f gather_Gather_Drop_1.p2 gather_Gather_Drop_1.p1 gather_Gather_Drop_1.p0
  have l0 : ∀ {α : Type} (f : AV → Option α), aLoad1 (.ptr c 0 1) s f = f lv := fun f => g_ld hc rfl rfl f
  have l1 : ∀ {α : Type} (f : AV → Option α), aLoadN 2 (.ptr q.p (0 + 1) 4) s f = f (.agg [.int .u8 q.id.1, .int .u64 q.id.2]) := fun f => load_n h.st rfl (by show 0 + 1 + 2 ≤ 4; decide)
  obtain ⟨s1, c1, c2⟩ := contains_run (y := q.id) hl k
  simp only [Part.ptr, bnd, guard_tt, guard_ff, guard_tf, guard_ft, pick_t, pick_f, if_t, if_f, add_i, sub_i, lss_i, leq_i, gtr_i, geq_i, eql_i, neq_i, min_i, max_i, conv_i, len_sl, len_nil, not_b, cells_agg, new_s, fld_p, nil_p, l0, l1, c1]
  exact ⟨s1, rfl, c2⟩
theorem Ptrs.ext' {L : List Part} (h : Ptrs s pv L rr) (e : Ext s s') : Ptrs s' pv L rr := by
  refine h.keep e.next fun r hr => ?_
  rcases h with ⟨_, _, rfl⟩ | ⟨r', m, _, h2, _, rfl⟩
  · cases hr
  · rw [List.mem_singleton.1 hr]; exact e.get _ h2
theorem PartAt.ext' {q : Part} (h : PartAt s q) (e : Ext s s') : PartAt s' q := h.keep e.next fun r hr => e.get r (h.lt r hr)
theorem ifun_loop {L : List Part} {c : Nat} {lv : AV} {x : Int × Int} {ro : Bool} (hL : L.length ≤ 1000000) (k : Nat) : ∀ (m i : Nat) (s : Store), Ptrs s pv L rr → (∀ q ∈ L, PartAt s q) → s.get c = .cells [lv] ro → c < s.next → IsL idc 2 s lv [x] → i ≤ L.length → L.length - i < m →
    ∃ s', gather_part_47.l0 (k + 5) m pv (.func 39 [] [.ptr c 0 1]) (.int .i64 (L.length : Nat)) (.int .i64 (i : Int)) s = some (.int .i64 (findI x (L.drop i) i), s') ∧ Ext s s'
  | 0, i, s, _, _, _, _, _, hi, hm => by omega
  | m + 1, i, s, h, hp, hc, hcl, hl, hi, hm => by
    have hs : gather_part_47.l0 (k + 5) (m + 1) = fun x0 x1 x7 x8 s => gather_part_47.p4 (k + 5) (gather_part_47.l0 (k + 5) m) x0 x1 x7 x8 s := rfl
    rw [hs]
    clear hs
    simp only
    unfold gather_part_47.p4 gather_part_47.p3 gather_part_47.p2 gather_part_47.p1 gather_part_47.p0
    by_cases hlt : i < L.length
    · obtain ⟨r, ep, a1, a2⟩ := h.at hlt
      have hd : L.drop i = L[i] :: L.drop (i + 1) := List.drop_eq_getElem_cons hlt
      obtain ⟨s1, b1, b2⟩ := drop1_run (hp _ (List.getElem_mem hlt)) hc hl k
      have hcall : ∀ {α : Type} (f : AV → Store → Option α), aCall (rn (k + 5)) (.func 39 [] [.ptr c 0 1]) [L[i].ptr] s f = f (.bool (decide (L[i].id = x))) s1 := fun f => by
        simp only [aCall, List.nil_append, List.cons_append, b1, Option.bind_some]
      simp only [lss_i, decide_eq_true (show (i : Int) < ((L.length : Nat) : Int) by omega), if_t, a1, a2, hcall, hd, findI]
      by_cases he : L[i].id = x
      · simp only [decide_eq_true he, if_t, if_pos he]
        exact ⟨_, rfl, b2⟩
      · simp only [decide_eq_false he, if_f, if_neg he, add_i]
        have hw : IntKind.i64.wrap ((i : Int) + 1) = ((i + 1 : Nat) : Int) := by rw [w_i64 (by omega) (by omega)]; omega
        rw [hw]
        obtain ⟨s2, d1, d2⟩ := ifun_loop hL k m (i + 1) s1 (h.ext' b2) (fun q hq => (hp q hq).ext' b2) ((b2.get _ hcl).trans hc) (Nat.lt_of_lt_of_le hcl b2.next) (hl.ext b2) (by omega) (by omega)
        exact ⟨s2, d1, b2.trans d2⟩
    · simp only [lss_i, decide_eq_false (show ¬ (i : Int) < ((L.length : Nat) : Int) by omega), if_f]
      rw [List.drop_eq_nil_of_le (by omega)]
      exact ⟨s, rfl, Ext.refl _⟩

/-- Behind the place of a part that goes, all move down. -/
theorem down_loop {L : List Part} {r m0 j c : Nat} {lv : AV} {x : Int × Int} {ro : Bool} (hL : L.length ≤ 1000000) (hj : j < L.length) (hne : ∀ i (hi : i < L.length), j < i → L[i].id ≠ x) (hcr : c ≠ r) (hlr : ∀ a b d e f, lv = .sl a b d e f → a ≠ r) (hqr : ∀ q ∈ L, ∀ y ∈ q.rows, y ≠ r) (k : Nat) : ∀ (m i : Nat) (s : Store), r < s.next → s.get r = .cells (((L.eraseIdx j).take (i - 1) ++ L.drop (i - 1)).map Part.ptr ++ List.replicate m0 .nilptr) false → (∀ q ∈ L, PartAt s q) → s.get c = .cells [lv] ro → c < s.next → IsL idc 2 s lv [x] → j < i → i ≤ L.length → L.length - i < m →
    ∃ s'', gather_part.l0 (k + 5) m (.sl r 0 L.length 1 (L.length + m0)) (.func 39 [] [.ptr c 0 1]) (.int .i64 ((i - 1 : Nat) : Int)) (.int .i64 (i : Int)) s = some (.sl r 0 (L.length - 1) 1 (L.length + m0), s'') ∧ s''.get r = .cells ((L.eraseIdx j).map Part.ptr ++ List.replicate (m0 + 1) .nilptr) false ∧ FrS [r] s s''
  | 0, i, s, _, _, _, _, _, _, _, hi, hm => by omega
  | m + 1, i, s, hrl, hrow, hp, hc, hcl, hl, hji, hi, hm => by
    have hs : gather_part.l0 (k + 5) (m + 1) = fun x0 x1 x5 x6 s => gather_part.p3 (k + 5) (gather_part.l0 (k + 5) m) x0 x1 x5 x6 s := rfl
    rw [hs]
    clear hs
    simp only
    unfold gather_part.p3
    have hel : (L.eraseIdx j).length = L.length - 1 := by rw [List.length_eraseIdx, if_pos hj]
    have htl : ((L.eraseIdx j).take (i - 1)).length = i - 1 := by rw [List.length_take, hel]; omega
    have hrl2 : (((L.eraseIdx j).take (i - 1) ++ L.drop (i - 1)).map Part.ptr ++ List.replicate m0 AV.nilptr).length = L.length + m0 := by
      rw [List.length_append, List.length_map, List.length_append, htl, List.length_drop, List.length_replicate]; omega
    by_cases hlt : i < L.length
    · unfold gather_part.p2 gather_part.p1
      have hix : ∀ (n : Nat), n < L.length → ∀ {α : Type} (f : AV → Option α), aIndexSl 1 (.sl r 0 L.length 1 (L.length + m0)) (.int .i64 (n : Int)) f = f (.ptr r (0 + n) (L.length + m0)) := fun n hn α f => by
        rw [index_sl (by omega) (by omega), Int.toNat_natCast, Nat.mul_one]
      have hat : (((L.eraseIdx j).take (i - 1) ++ L.drop (i - 1)).map Part.ptr ++ List.replicate m0 AV.nilptr)[0 + i]? = some L[i].ptr := by
        rw [Nat.zero_add, List.getElem?_append_left (by rw [List.length_map, List.length_append, htl, List.length_drop]; omega), List.getElem?_map, List.getElem?_append_right (by rw [htl]; omega), htl, List.getElem?_drop, show i - 1 + (i - (i - 1)) = i by omega, List.getElem?_eq_getElem hlt]
        rfl
      have ld : ∀ {α : Type} (f : AV → Option α), aLoad1 (.ptr r (0 + i) (L.length + m0)) s f = f L[i].ptr := fun f => g_ld hrow hrl2 hat f
      obtain ⟨s1, b1, b2⟩ := drop1_run (hp _ (List.getElem_mem hlt)) hc hl k
      have hcall : ∀ {α : Type} (f : AV → Store → Option α), aCall (rn (k + 5)) (.func 39 [] [.ptr c 0 1]) [L[i].ptr] s f = f (.bool (decide (L[i].id = x))) s1 := fun f => by
        simp only [aCall, List.nil_append, List.cons_append, b1, Option.bind_some]
      have hid := hne i hlt hji
      have hr1 := (b2.get r hrl).trans hrow
      have hst := fun {α : Type} (f : Store → Option α) => g_st (ep := L.length + m0) (j := 0 + (i - 1)) (v := L[i].ptr) hr1 hrl2 (by omega) rfl f
      have hset : (((L.eraseIdx j).take (i - 1) ++ L.drop (i - 1)).map Part.ptr ++ List.replicate m0 AV.nilptr).set (0 + (i - 1)) L[i].ptr = (((L.eraseIdx j).take (i + 1 - 1) ++ L.drop (i + 1 - 1)).map Part.ptr ++ List.replicate m0 AV.nilptr) := by
        rw [Nat.zero_add, Nat.add_sub_cancel, List.set_append_left _ _ (by rw [List.length_map, List.length_append, htl, List.length_drop]; omega), List.map_append, List.map_append, List.set_append_right _ _ (by rw [List.length_map, htl]; exact Nat.le_refl _), List.length_map, htl, Nat.sub_self]
        have h1 : L.drop (i - 1) = L[i - 1] :: L.drop i := by
          have := List.drop_eq_getElem_cons (l := L) (i := i - 1) (by omega)
          rw [this, show i - 1 + 1 = i by omega]
        have h2 : (L.eraseIdx j).take i = (L.eraseIdx j).take (i - 1) ++ [L[i]] := by
          have h3 := List.take_succ_eq_append_getElem (l := L.eraseIdx j) (i := i - 1) (by rw [hel]; omega)
          rw [show i - 1 + 1 = i by omega] at h3
          have h9 : (L.eraseIdx j)[i - 1]? = some L[i] := by rw [List.getElem?_eraseIdx, if_neg (by omega), show i - 1 + 1 = i by omega, List.getElem?_eq_getElem hlt]
          rw [List.getElem?_eq_getElem (by rw [hel]; omega)] at h9
          rw [h3, Option.some.inj h9]
        rw [h1, h2]
        simp
      have hw1 : IntKind.i64.wrap (((i - 1 : Nat) : Int) + 1) = ((i + 1 - 1 : Nat) : Int) := by rw [w_i64 (by omega) (by omega)]; omega
      have hw2 : IntKind.i64.wrap ((i : Int) + 1) = ((i + 1 : Nat) : Int) := by rw [w_i64 (by omega) (by omega)]; omega
      simp only [bnd, guard_tt, guard_ff, guard_tf, guard_ft, pick_t, pick_f, if_t, if_f, add_i, sub_i, lss_i, leq_i, gtr_i, geq_i, eql_i, neq_i, min_i, max_i, conv_i, len_sl, len_nil, not_b, cells_agg, new_s, fld_p, nil_p, decide_eq_true (show (i : Int) < ((L.length : Nat) : Int) by omega), hix i hlt, hix (i - 1) (by omega), ld, hcall, decide_eq_false hid, Bool.not_false, hst, hset, hw1, hw2]
      have hf : Fr1 r s (s1.set r (.cells (((L.eraseIdx j).take (i + 1 - 1) ++ L.drop (i + 1 - 1)).map Part.ptr ++ List.replicate m0 AV.nilptr) false)) := (b2.fr1 r).trans (Fr1.set _ _ _)
      have hk : ∀ y, y < s.next → y ≠ r → (s1.set r (.cells (((L.eraseIdx j).take (i + 1 - 1) ++ L.drop (i + 1 - 1)).map Part.ptr ++ List.replicate m0 AV.nilptr) false)).get y = s.get y := fun y hy hn => hf.get y hy hn
      have hl2 : IsL idc 2 (s1.set r (.cells (((L.eraseIdx j).take (i + 1 - 1) ++ L.drop (i + 1 - 1)).map Part.ptr ++ List.replicate m0 AV.nilptr) false)) lv [x] := by
        rcases hl with q | ⟨a, ro', q1, q2, q3⟩
        · exact .inl q
        · exact .inr ⟨a, ro', q1, Nat.lt_of_lt_of_le q2 hf.next, (hk a q2 (hlr _ _ _ _ _ q1)).trans q3⟩
      obtain ⟨s3, d1, d2, d3⟩ := down_loop hL hj hne hcr hlr hqr k m (i + 1) _ (Nat.lt_of_lt_of_le hrl hf.next) (by rw [get_set, if_pos rfl]) (fun q hq => (hp q hq).keep hf.next fun y hy => hk y ((hp q hq).lt y hy) (hqr q hq y hy)) ((hk c hcl hcr).trans hc) (Nat.lt_of_lt_of_le hcl hf.next) hl2 (by omega) (by omega) (by omega)
      exact ⟨s3, d1, d2, (hf.frS (S := [r]) (by simp)).trans d3 fun l hl => .inl hl⟩
    · have hin : i = L.length := by omega
      subst hin
      unfold gather_part.p0
      have h1 : L.length - (L.length - 1) = 1 := by omega
      have hclr : ∀ {α : Type} (f : Store → Option α), aClear [AV.nilptr] 1 (.sl r (0 + (L.length - 1)) (L.length - (L.length - 1)) 1 (L.length + m0)) s f = f (s.set r (.cells ((L.eraseIdx j).map Part.ptr ++ List.replicate (m0 + 1) AV.nilptr) false)) := fun f => by
        rw [h1]
        simp only [aClear, aOwn, hrow, hrl2, if_true]
        rw [if_neg (by omega), if_pos (by omega)]
        have h2 : (L.eraseIdx j).take (L.length - 1) = L.eraseIdx j := List.take_of_length_le (by omega)
        have h3 : L.drop (L.length - 1) = [L[L.length - 1]] := by
          rw [List.drop_eq_getElem_cons (by omega), List.drop_eq_nil_of_le (by omega)]
        have h4 : putAll ((L.eraseIdx j ++ [L[L.length - 1]]).map Part.ptr ++ List.replicate m0 AV.nilptr) (0 + (L.length - 1)) [AV.nilptr] = (L.eraseIdx j).map Part.ptr ++ List.replicate (m0 + 1) AV.nilptr := by
          simp only [putAll, Nat.zero_add]
          rw [List.map_append, List.append_assoc, List.set_append_right _ _ (by rw [List.length_map, hel]; exact Nat.le_refl _), List.length_map, hel, Nat.sub_self]
          simp [List.replicate_succ]
        rw [h2, h3]
        rw [show (List.replicate 1 [AV.nilptr]).flatten = [AV.nilptr] from rfl, h4]
      have hslo : ∀ {α : Type} (f : AV → Option α), aSliceSl 1 (.sl r 0 L.length 1 (L.length + m0)) (some (.int .i64 ((L.length - 1 : Nat) : Int))) none f = f (.sl r (0 + (L.length - 1)) (L.length - (L.length - 1)) 1 (L.length + m0)) := fun f => by
        simp only [aSliceSl, aNum]
        rw [if_pos ⟨trivial, by omega, by omega, by omega⟩]
        simp
      have hshi : ∀ {α : Type} (f : AV → Option α), aSliceSl 1 (.sl r 0 L.length 1 (L.length + m0)) none (some (.int .i64 ((L.length - 1 : Nat) : Int))) f = f (.sl r 0 (L.length - 1) 1 (L.length + m0)) := fun f => by
        simp only [aSliceSl, aNum]
        rw [if_pos ⟨trivial, by omega, by omega, by omega⟩]
        simp
      simp only [bnd, guard_tt, guard_ff, guard_tf, guard_ft, pick_t, pick_f, if_t, if_f, add_i, sub_i, lss_i, leq_i, gtr_i, geq_i, eql_i, neq_i, min_i, max_i, conv_i, len_sl, len_nil, not_b, cells_agg, new_s, fld_p, nil_p, decide_eq_false (show ¬ ((L.length : Nat) : Int) < ((L.length : Nat) : Int) by omega), hslo, hclr, hshi]
      exact ⟨_, rfl, by rw [get_set, if_pos rfl], (Fr1.set r s _).frS (by simp)⟩
end Go.Proofs.YtmkdpenpfkmfpaaDoor.Sim
