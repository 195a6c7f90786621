/- The texts B13A, B13B, B13C, B13D, B13E, B13F, B13G, B13H, B13I, B13J, B13K, B13L, B13M, B13N, B13O, B13P, B13Q, B13R, B13S, B13T, one behind the other. No condition. -/
import Derived.Test.YtmkdpenpfkmfpaaDoorBArg
namespace Go.Proofs.YtmkdpenpfkmfpaaDoor.Sim
set_option linter.unusedSimpArgs false
set_option linter.unusedVariables false

theorem g_ld {s : Store} {id j ep : Nat} {cs : List AV} {ro : Bool} (h : s.get id = .cells cs ro) (hc : cs.length = ep) {v : AV} (hv : cs[j]? = some v) {α : Type} (f : AV → Option α) : aLoad1 (.ptr id j ep) s f = f v := load_1 h hc hv
theorem g_st {s : Store} {id j ep : Nat} {cs : List AV} {v : AV} (h : s.get id = .cells cs false) (hc : cs.length = ep) (hj : j < ep) (hv : v.one = true) {α : Type} (f : Store → Option α) : aStore 1 (.ptr id j ep) v s f = f (s.set id (.cells (cs.set j v) false)) := by
  have cel : ∀ {α : Type} (f : List AV → Option α), aCells v f = f [v] := fun {α} f => by cases v <;> first | rfl | cases hv
  simp only [aStore, cel, aOwn, h, hc, if_true, List.length_cons, List.length_nil]
  rw [if_pos (by first | exact ⟨trivial, by omega⟩ | omega)]
  rfl

/-- A part: where its rows lie, whose it is, how many chunks it has, which are there, its bytes. -/
structure Part where
  p : Nat
  sid : Nat
  wid : Nat
  bid : Nat
  id : Int × Int
  n : Nat
  W : List Nat
  b : List Int
def Part.rows (q : Part) : List Nat := [q.p, q.sid, q.wid, q.bid]
def Part.ptr (q : Part) : AV := .ptr q.p 0 4
structure PartAt (s : Store) (q : Part) : Prop where
  st : s.get q.p = .cells [.ptr q.sid 0 2, .int .u8 q.id.1, .int .u64 q.id.2, .sl q.bid 0 q.b.length 1 q.b.length] false
  set : IsSet s q.sid q.wid q.W q.n
  row : s.get q.bid = .cells (q.b.map (.int .u8)) false
  p_lt : q.p < s.next
  b_lt : q.bid < s.next
  size : q.b.length ≤ 1048576
theorem PartAt.keep {s s' : Store} {q : Part} (h : PartAt s q) (hn : s.next ≤ s'.next) (hg : ∀ r ∈ q.rows, s'.get r = s.get r) : PartAt s' q :=
  ⟨(hg _ (by simp [Part.rows])).trans h.st, h.set.keep (hg _ (by simp [Part.rows])) (hg _ (by simp [Part.rows])) hn, (hg _ (by simp [Part.rows])).trans h.row, Nat.lt_of_lt_of_le h.p_lt hn, Nat.lt_of_lt_of_le h.b_lt hn, h.size⟩
theorem PartAt.lt {s : Store} {q : Part} (h : PartAt s q) : ∀ r ∈ q.rows, r < s.next := by
  intro r hr
  simp only [Part.rows, List.mem_cons, List.not_mem_nil, or_false] at hr
  rcases hr with rfl | rfl | rfl | rfl
  · exact h.p_lt
  · exact h.set.id_lt
  · exact h.set.wid_lt
  · exact h.b_lt

/-- What a gatherer has. -/
structure GS where
  chunk : Int
  most : Int
  room : Int
  L : List Part
  wanted : Int × Int
  counts : List Int
def gcells (g : GS) (pv : AV) : List AV := [.int .i64 g.chunk, .int .i64 g.most, .int .i64 g.room, pv, .int .u8 g.wanted.1, .int .u64 g.wanted.2] ++ g.counts.map (.int .i64)
/-- A list of parts: the row of its pointers; behind them nothing. -/
def Ptrs (s : Store) (pv : AV) (L : List Part) (rr : List Nat) : Prop := (pv = .nilsl ∧ L = [] ∧ rr = []) ∨ ∃ r m, pv = .sl r 0 L.length 1 (L.length + m) ∧ r < s.next ∧ s.get r = .cells (L.map Part.ptr ++ List.replicate m .nilptr) false ∧ rr = [r]
structure IsG (s : Store) (gid : Nat) (g : GS) (pv : AV) (rr : List Nat) : Prop where
  st : s.get gid = .cells (gcells g pv) false
  ptrs : Ptrs s pv g.L rr
  nodup : (gid :: (rr ++ (g.L.map Part.rows).flatten)).Nodup
  parts : ∀ q ∈ g.L, PartAt s q
  lt : gid < s.next
  cnt : g.counts.length = 6
theorem gcells_len (g : GS) (pv : AV) (h : g.counts.length = 6) : (gcells g pv).length = 12 := by simp [gcells, h]

variable {s s' : Store} {gid : Nat} {g : GS} {pv : AV} {rr : List Nat}
theorem Ptrs.keep {L : List Part} (h : Ptrs s pv L rr) (hn : s.next ≤ s'.next) (hg : ∀ r ∈ rr, s'.get r = s.get r) : Ptrs s' pv L rr := by
  rcases h with h | ⟨r, m, h1, h2, h3, rfl⟩
  · exact .inl h
  · exact .inr ⟨r, m, h1, Nat.lt_of_lt_of_le h2 hn, (hg r (by simp)).trans h3, rfl⟩
theorem IsG.rows_lt (h : IsG s gid g pv rr) : ∀ r ∈ gid :: (rr ++ (g.L.map Part.rows).flatten), r < s.next := by
  intro r hr
  rcases List.mem_cons.1 hr with rfl | hr
  · exact h.lt
  rcases List.mem_append.1 hr with hr | hr
  · rcases h.ptrs with ⟨_, _, rfl⟩ | ⟨r', m, _, h2, _, rfl⟩
    · cases hr
    · rw [List.mem_singleton.1 hr]; exact h2
  · obtain ⟨l, hl, hr⟩ := List.mem_flatten.1 hr
    obtain ⟨q, hq, rfl⟩ := List.mem_map.1 hl
    exact (h.parts q hq).lt r hr
theorem IsG.keep (h : IsG s gid g pv rr) (hn : s.next ≤ s'.next) (hg : ∀ r ∈ gid :: (rr ++ (g.L.map Part.rows).flatten), s'.get r = s.get r) : IsG s' gid g pv rr :=
  ⟨(hg gid (by simp)).trans h.st, h.ptrs.keep hn fun r hr => hg r (by simp [hr]), h.nodup, fun q hq => (h.parts q hq).keep hn fun r hr => hg r (List.mem_cons_of_mem _ (List.mem_append_right _ (List.mem_flatten.2 ⟨_, List.mem_map.2 ⟨q, hq, rfl⟩, hr⟩))), Nat.lt_of_lt_of_le h.lt hn, h.cnt⟩
theorem IsG.ext (h : IsG s gid g pv rr) (e : Ext s s') : IsG s' gid g pv rr := h.keep e.next fun r hr => e.get r (h.rows_lt r hr)
/-- The gatherer's own row is written. -/
theorem IsG.own {g' : GS} (h : IsG s gid g pv rr) (hL : g'.L = g.L) (hc : g'.counts.length = 6) : IsG (s.set gid (.cells (gcells g' pv) false)) gid g' pv rr := by
  have hnot : ∀ r ∈ rr ++ (g.L.map Part.rows).flatten, r ≠ gid := fun r hr e => (List.nodup_cons.1 h.nodup).1 (e ▸ hr)
  refine ⟨by rw [get_set, if_pos rfl], ?_, by rw [hL]; exact h.nodup, ?_, h.lt, hc⟩
  · rw [hL]
    exact h.ptrs.keep (Nat.le_refl _) fun r hr => by rw [get_set, if_neg (hnot r (by simp [hr]))]
  · rw [hL]
    intro q hq
    exact (h.parts q hq).keep (Nat.le_refl _) fun r hr => by rw [get_set, if_neg (hnot r (List.mem_append_right _ (List.mem_flatten.2 ⟨_, List.mem_map.2 ⟨q, hq, rfl⟩, hr⟩)))]

/-- One more of a kind is counted. -/
def countC (c : List Int) (w : Nat) : List Int := c.set w (IntKind.i64.wrap (c.getD w 0 + 1))
theorem countC_len (c : List Int) (w : Nat) : (countC c w).length = c.length := by simp [countC]
theorem makes_run (h : IsG s gid g pv rr) {w : Nat} (hw : w < 6) (k : Nat) : ∃ s', rn (k + 1) 31 [.ptr gid 0 12, .int .u8 (w : Int)] s = some (.int .u8 (w : Int), s') ∧ IsG s' gid { g with counts := countC g.counts w } pv rr ∧ Fr1 gid s s' := by
  rw [gather_Gather_makes.eq]
  unfold gather_Gather_makes.f gather_Gather_makes.p2 gather_Gather_makes.p1 gather_Gather_makes.p0
  have hv : (gcells g pv)[0 + 6 + (w : Int).toNat * 1]? = some (.int .i64 (g.counts.getD w 0)) := by
    rw [Int.toNat_natCast, Nat.mul_one, Nat.zero_add, gcells, List.getElem?_append_right (by simp), List.getElem?_map]
    have : g.counts[6 + w - 6]? = some (g.counts.getD w 0) := by
      rw [show 6 + w - 6 = w by omega, List.getD_eq_getElem?_getD, List.getElem?_eq_getElem (by rw [h.cnt]; exact hw)]; rfl
    show Option.map _ (g.counts[6 + w - 6]?) = _
    rw [this]; rfl
  have hst := fun {α : Type} (f : Store → Option α) => g_st (j := 0 + 6 + (w : Int).toNat * 1) (v := .int .i64 (IntKind.i64.wrap (g.counts.getD w 0 + 1))) h.st (gcells_len g pv h.cnt) (by rw [Int.toNat_natCast]; omega) rfl f
  simp only [bnd, guard_tt, guard_ff, guard_tf, guard_ft, pick_t, pick_f, if_t, if_f, add_i, sub_i, lss_i, leq_i, gtr_i, geq_i, eql_i, neq_i, min_i, max_i, conv_i, len_sl, len_nil, not_b, cells_agg, new_s, fld_p, nil_p, index_arr (show (0 : Int) ≤ (w : Int) by omega) (show (w : Int) < (6 : Nat) by omega), g_ld h.st (gcells_len g pv h.cnt) hv, hst]
  have he : (gcells g pv).set (0 + 6 + (w : Int).toNat * 1) (.int .i64 (IntKind.i64.wrap (g.counts.getD w 0 + 1))) = gcells { g with counts := countC g.counts w } pv := by
    rw [Int.toNat_natCast, Nat.mul_one, Nat.zero_add]
    unfold gcells countC
    rw [List.set_append_right _ _ (by simp)]
    simp [List.map_set]
  rw [he]
  exact ⟨_, rfl, h.own rfl (by rw [countC_len]; exact h.cnt), Fr1.set _ _ _⟩

/-- The first part of an id, from a place on. -/
def findI (x : Int × Int) : List Part → Nat → Int
  | [], _ => -1
  | q :: l, i => if q.id = x then i else findI x l (i + 1)
theorem Ptrs.at {L : List Part} (h : Ptrs s pv L rr) {i : Nat} (hi : i < L.length) : ∃ r ep, (∀ {α : Type} (kk : IntKind) (f : AV → Option α), aIndexSl 1 pv (.int kk (i : Int)) f = f (.ptr r (0 + i) ep)) ∧ ∀ {α : Type} (f : AV → Option α), aLoad1 (.ptr r (0 + i) ep) s f = f (L[i].ptr) := by
  rcases h with ⟨_, rfl, _⟩ | ⟨r, m, rfl, h2, h3, _⟩
  · simp at hi
  · refine ⟨r, L.length + m, fun {α} kk f => ?_, fun {α} f => g_ld h3 (by simp) (by rw [Nat.zero_add, List.getElem?_append_left (by simpa using hi)]; simp [hi]) f⟩
    have := index_sl (κ := f) (l := r) (off := 0) (n := L.length) (es := 1) (ep := L.length + m) (k := kk) (j := (i : Int)) (by omega) (by omega)
    rw [this]; simp
theorem Ptrs.len {L : List Part} (h : Ptrs s pv L rr) {α : Type} (f : AV → Option α) : aLen pv f = f (.int .i64 (L.length : Nat)) := by
  rcases h with ⟨rfl, rfl, _⟩ | ⟨r, m, rfl, _⟩ <;> rfl
theorem eq_id (a b : Int × Int) {α : Type} (f : Bool → Option α) : aEq (.struct [.int, .int]) (.agg [.int .u8 a.1, .int .u64 a.2]) (.agg [.int .u8 b.1, .int .u64 b.2]) f = f (decide (a = b)) := by
  have : decide (a = b) = ((a.1 == b.1) && ((a.2 == b.2) && true)) := by
    obtain ⟨a1, a2⟩ := a
    obtain ⟨b1, b2⟩ := b
    by_cases h1 : a1 = b1 <;> by_cases h2 : a2 = b2 <;> simp [h1, h2]
  rw [this]
  rfl
theorem find1_run {q : Part} {c : Nat} {x : Int × Int} {ro : Bool} (h : PartAt s q) (hc : s.get c = .cells [.int .u8 x.1, .int .u64 x.2] ro) (k : Nat) : rn (k + 1) 48 [q.ptr, .ptr c 0 2] s = some (.bool (decide (q.id = x)), s) := by
  rw [gather_Gather_find_1.eq]
  unfold gather_Gather_find_1.f gather_Gather_find_1.p2 gather_Gather_find_1.p1 gather_Gather_find_1.p0
  have l1 : ∀ {α : Type} (f : AV → Option α), aLoadN 2 (.ptr q.p (0 + 1) 4) s f = f (.agg [.int .u8 q.id.1, .int .u64 q.id.2]) := fun f => load_n h.st rfl (by decide)
  have l2 : ∀ {α : Type} (f : AV → Option α), aLoadN 2 (.ptr c 0 2) s f = f (.agg [.int .u8 x.1, .int .u64 x.2]) := fun f => load_n hc rfl (by decide)
  simp only [Part.ptr, bnd, guard_tt, guard_ff, guard_tf, guard_ft, pick_t, pick_f, if_t, if_f, add_i, sub_i, lss_i, leq_i, gtr_i, geq_i, eql_i, neq_i, min_i, max_i, conv_i, len_sl, len_nil, not_b, cells_agg, new_s, fld_p, nil_p, l1, l2, eq_id]
theorem find_loop (h : Ptrs s pv g.L rr) (hp : ∀ q ∈ g.L, PartAt s q) {c : Nat} {x : Int × Int} {ro : Bool} (hc : s.get c = .cells [.int .u8 x.1, .int .u64 x.2] ro) (hL : g.L.length ≤ 1000000) (k : Nat) : ∀ (m i : Nat), i ≤ g.L.length → g.L.length - i < m →
    gather_part_47.l0 (k + 1) m pv (.func 48 [] [.ptr c 0 2]) (.int .i64 (g.L.length : Nat)) (.int .i64 (i : Int)) s = some (.int .i64 (findI x (g.L.drop i) i), s)
  | 0, i, _, hm => by omega
  | m + 1, i, hi, hm => by
    have hs : gather_part_47.l0 (k + 1) (m + 1) = fun x0 x1 x7 x8 s => gather_part_47.p4 (k + 1) (gather_part_47.l0 (k + 1) m) x0 x1 x7 x8 s := rfl
    rw [hs]
    clear hs
    simp only
    unfold gather_part_47.p4 gather_part_47.p3 gather_part_47.p2 gather_part_47.p1 gather_part_47.p0
    by_cases hlt : i < g.L.length
    · obtain ⟨r, ep, a1, a2⟩ := h.at hlt
      have hd : g.L.drop i = g.L[i] :: g.L.drop (i + 1) := List.drop_eq_getElem_cons hlt
      have hcall : ∀ {α : Type} (f : AV → Store → Option α), aCall (rn (k + 1)) (.func 48 [] [.ptr c 0 2]) [g.L[i].ptr] s f = f (.bool (decide (g.L[i].id = x))) s := fun f => by
        have := find1_run (hp _ (List.getElem_mem hlt)) hc k
        simp only [aCall, List.nil_append, List.cons_append, this, Option.bind_some]
      simp only [lss_i, decide_eq_true (show (i : Int) < ((g.L.length : Nat) : Int) by omega), if_t, a1, a2, hcall, hd, findI]
      by_cases he : g.L[i].id = x
      · simp only [decide_eq_true he, if_t, if_pos he]
      · simp only [decide_eq_false he, if_f, if_neg he, add_i]
        have hw : IntKind.i64.wrap ((i : Int) + 1) = ((i + 1 : Nat) : Int) := by rw [w_i64 (by omega) (by omega)]; omega
        rw [hw]
        exact find_loop h hp hc hL k m (i + 1) (by omega) (by omega)
    · simp only [lss_i, decide_eq_false (show ¬ (i : Int) < ((g.L.length : Nat) : Int) by omega), if_f]
      rw [List.drop_eq_nil_of_le (by omega)]
      rfl
theorem find_run (h : IsG s gid g pv rr) (hL : g.L.length ≤ 1000000) (x : Int × Int) (k : Nat) (hk : g.L.length < k) : ∃ s', rn (k + 3) 32 [.ptr gid 0 12, .agg [.int .u8 x.1, .int .u64 x.2]] s = some (.int .i64 (findI x g.L 0), s') ∧ Ext s s' := by
  rw [gather_Gather_find.eq]
  unfold gather_Gather_find.f gather_Gather_find.p0
  have e := Ext.push s (.cells [.int .u8 x.1, .int .u64 x.2] false)
  have hc : (s.push (.cells [.int .u8 x.1, .int .u64 x.2] false)).get s.next = .cells [.int .u8 x.1, .int .u64 x.2] false := by rw [get_push, if_pos rfl]
  have h' := h.ext e
  have hl : ∀ {α : Type} (f : AV → Option α), aLoad1 (.ptr gid (0 + 3) 12) (s.push (.cells [.int .u8 x.1, .int .u64 x.2] false)) f = f pv := fun f => g_ld h'.st (gcells_len g pv h.cnt) rfl f
  have hrun : rn (k + 2) 47 [pv, .func 48 [] [.ptr s.next 0 2]] (s.push (.cells [.int .u8 x.1, .int .u64 x.2] false)) = some (.int .i64 (findI x g.L 0), s.push (.cells [.int .u8 x.1, .int .u64 x.2] false)) := by
    rw [gather_part_47.eq]
    unfold gather_part_47.f gather_part_47.p6 gather_part_47.p5
    rw [h'.ptrs.len]
    exact find_loop h'.ptrs h'.parts hc hL k (k + 1) 0 (Nat.zero_le _) (by omega)
  simp only [bnd, guard_tt, guard_ff, guard_tf, guard_ft, pick_t, pick_f, if_t, if_f, add_i, sub_i, lss_i, leq_i, gtr_i, geq_i, eql_i, neq_i, min_i, max_i, conv_i, len_sl, len_nil, not_b, cells_agg, new_s, fld_p, nil_p, List.length_cons, List.length_nil, hl, hrun]
  exact ⟨_, rfl, e⟩

/-- How many bytes parts have. -/
def usedL (L : List Part) : Nat := (L.map fun q => q.b.length).sum
theorem usedL_le {L : List Part} (h : ∀ q ∈ L, q.b.length ≤ 1048576) : usedL L ≤ L.length * 1048576 := by
  induction L with
  | nil => simp [usedL]
  | cons q L ih =>
    have h1 := h q (by simp)
    have h2 := ih fun q hq => h q (by simp [hq])
    simp only [usedL, List.map_cons, List.sum_cons, List.length_cons] at h2 ⊢
    omega
theorem used_loop (h : Ptrs s pv g.L rr) (hp : ∀ q ∈ g.L, PartAt s q) (hL : g.L.length ≤ 1000000) (k : Nat) : ∀ (m i : Nat), i ≤ g.L.length → g.L.length - i < m →
    gather_Gather_Used.l0 k m (.int .i64 (usedL (g.L.take i) : Nat)) pv (.int .i64 (g.L.length : Nat)) (.int .i64 (i : Int)) s = some (.int .i64 (usedL g.L : Nat), s)
  | 0, i, _, hm => by omega
  | m + 1, i, hi, hm => by
    have hs : gather_Gather_Used.l0 k (m + 1) = fun x0 x1 x7 x8 s => gather_Gather_Used.p4 k (gather_Gather_Used.l0 k m) x0 x1 x7 x8 s := rfl
    rw [hs]
    clear hs
    simp only
    unfold gather_Gather_Used.p4 gather_Gather_Used.p3 gather_Gather_Used.p2 gather_Gather_Used.p1 gather_Gather_Used.p0
    by_cases hlt : i < g.L.length
    · obtain ⟨r, ep, a1, a2⟩ := h.at hlt
      have hq := hp _ (List.getElem_mem hlt)
      have l1 : ∀ {α : Type} (f : AV → Option α), aLoad1 (.ptr g.L[i].p (0 + 3) 4) s f = f (.sl g.L[i].bid 0 g.L[i].b.length 1 g.L[i].b.length) := fun f => g_ld hq.st rfl rfl f
      have htake : usedL (g.L.take (i + 1)) = usedL (g.L.take i) + g.L[i].b.length := by
        unfold usedL
        rw [List.take_succ_eq_append_getElem hlt, List.map_append, List.sum_append]
        simp
      have hbnd : usedL (g.L.take (i + 1)) ≤ 1000000 * 1048576 := by
        have := usedL_le (L := g.L.take (i + 1)) fun q hq => (hp q (List.mem_of_mem_take hq)).size
        have h2 : (g.L.take (i + 1)).length ≤ 1000000 := by rw [List.length_take]; omega
        exact Nat.le_trans this (Nat.mul_le_mul_right _ h2)
      have hw1 : IntKind.i64.wrap (((usedL (g.L.take i) : Nat) : Int) + ((g.L[i].b.length : Nat) : Int)) = ((usedL (g.L.take (i + 1)) : Nat) : Int) := by
        rw [w_i64 (by omega) (by omega)]; omega
      have hw : IntKind.i64.wrap ((i : Int) + 1) = ((i + 1 : Nat) : Int) := by rw [w_i64 (by omega) (by omega)]; omega
      have ih := used_loop h hp hL k m (i + 1) (by omega) (by omega)
      simp only [lss_i, decide_eq_true (show (i : Int) < ((g.L.length : Nat) : Int) by omega), if_t, a1, a2, Part.ptr, nil_p, fld_p, l1, len_sl, add_i, hw1, hw, ih]
    · simp only [lss_i, decide_eq_false (show ¬ (i : Int) < ((g.L.length : Nat) : Int) by omega), if_f]
      rw [List.take_of_length_le (by omega)]
theorem used_run (h : IsG s gid g pv rr) (hL : g.L.length ≤ 1000000) (k : Nat) (hk : g.L.length < k) : rn (k + 1) 14 [.ptr gid 0 12] s = some (.int .i64 (usedL g.L : Nat), s) := by
  rw [gather_Gather_Used.eq]
  unfold gather_Gather_Used.f gather_Gather_Used.p10 gather_Gather_Used.p9 gather_Gather_Used.p8 gather_Gather_Used.p7 gather_Gather_Used.p5
  have hl : ∀ {α : Type} (f : AV → Option α), aLoad1 (.ptr gid (0 + 3) 12) s f = f pv := fun f => g_ld h.st (gcells_len g pv h.cnt) rfl f
  simp only [eq_pn, Bool.not_false, if_t, nil_p, fld_p, hl, h.ptrs.len]
  exact used_loop h.ptrs h.parts hL k k 0 (Nat.zero_le _) (by omega)
end Go.Proofs.YtmkdpenpfkmfpaaDoor.Sim
namespace Go.Proofs.YtmkdpenpfkmfpaaDoor.Sim
set_option linter.unusedSimpArgs false
set_option linter.unusedVariables false
variable {s s' : Store} {gid : Nat} {g : GS} {pv : AV} {rr : List Nat}

theorem shift_list (P : List AV) (z : AV) (m i : Nat) (hi : i < P.length) : putAll (putAll (P ++ List.replicate m z) i (P.drop (i + 1))) (P.length - 1) [z] = P.eraseIdx i ++ List.replicate (m + 1) z := by
  apply List.ext_getElem?
  intro j
  rw [putAll_at _ _ _ (by simp [putAll_length]; omega), putAll_at _ _ _ (by simp; omega), List.getElem?_append, List.getElem?_append, List.length_eraseIdx, if_pos hi, List.getElem?_eraseIdx, List.getElem?_replicate, List.getElem?_replicate, List.getElem?_drop, List.length_drop]
  by_cases h1 : j < P.length - 1
  · rw [if_pos h1, if_pos h1, if_pos (show j < P.length by omega)]
    by_cases h2 : j < i
    · rw [if_pos h2, if_pos h2]
    · rw [if_neg h2, if_neg h2, if_pos (by omega), show i + 1 + (j - i) = j + 1 by omega]
  · rw [if_neg h1, if_neg h1]
    by_cases h2 : j = P.length - 1
    · subst h2
      simp
    · rw [if_neg (by simp; omega), if_neg (show ¬ j < i by omega), if_neg (by omega), if_neg (by omega)]
      by_cases h3 : j - P.length < m
      · rw [if_pos h3, if_pos (by omega)]
      · rw [if_neg h3, if_neg (by omega)]

theorem cut_hi {r n ep i : Nat} (hi : i ≤ n) {α : Type} (f : AV → Option α) : aSliceSl 1 (.sl r 0 n 1 ep) none (some (.int .i64 (i : Int))) f = f (.sl r 0 i 1 ep) := by
  simp only [aSliceSl, aNum]
  rw [if_pos ⟨trivial, Int.le_refl _, by omega, by omega⟩]
  simp
theorem cut_lo {r n ep i : Nat} (hi : i ≤ n) {α : Type} (f : AV → Option α) : aSliceSl 1 (.sl r 0 n 1 ep) (some (.int .i64 (i : Int))) none f = f (.sl r i (n - i) 1 ep) := by
  simp only [aSliceSl, aNum]
  rw [if_pos ⟨trivial, by omega, by omega, Int.le_refl _⟩]
  simp
theorem cut_room {r n ep a b : Nat} (ha : a ≤ b) (hb : b ≤ ep) {α : Type} (f : AV → Option α) : aSliceSl 1 (.sl r 0 n 1 ep) (some (.int .i64 (a : Int))) (some (.int .i64 (b : Int))) f = f (.sl r a (b - a) 1 ep) := by
  simp only [aSliceSl, aNum]
  by_cases h : b ≤ n
  · rw [if_pos ⟨trivial, by omega, by omega, by omega⟩]; simp
  · rw [if_neg (by omega), if_pos ⟨trivial, by omega, by omega, by omega, by omega⟩]; simp
theorem del_run {L : List Part} (h : Ptrs s pv L rr) {i : Nat} (hi : i < L.length) (hL : L.length ≤ 1000000) (k : Nat) :
    ∃ pv' s' r, rn (k + 1) 37 [pv, .int .i64 (i : Int), .int .i64 ((i + 1 : Nat) : Int)] s = some (pv', s') ∧ Ptrs s' pv' (L.eraseIdx i) rr ∧ rr = [r] ∧ Fr1 r s s' ∧ pv'.one = true := by
  rcases h with ⟨_, rfl, _⟩ | ⟨r, m, rfl, h2, h3, rfl⟩
  · simp at hi
  rw [gather_part_37.eq]
  unfold gather_part_37.f gather_part_37.p5 gather_part_37.p4 gather_part_37.p3 gather_part_37.p2 gather_part_37.p1 gather_part_37.p0
  have hcap : ∀ {α : Type} (f : AV → Option α), aCutCap (.sl r 0 L.length 1 (L.length + m)) (some (.int .i64 (i : Int))) (some (.int .i64 ((i + 1 : Nat) : Int))) (.int .i64 (L.length : Int)) f = f .junk := fun f => by
    simp only [aCutCap, aNum]
    rw [if_pos ⟨by omega, by omega, by omega, by omega, rfl⟩]
  have hne : ((i : Int) == ((i + 1 : Nat) : Int)) = false := by simp; omega
  have hP : (L.map Part.ptr).length = L.length := by simp
  have hrow : (L.map Part.ptr ++ List.replicate m AV.nilptr).length = L.length + m := by simp
  have hnew : ((L.map Part.ptr ++ List.replicate m AV.nilptr).drop (i + 1)).take ((L.length - (i + 1)) * 1) = (L.map Part.ptr).drop (i + 1) := by
    rw [Nat.mul_one, List.drop_append_of_le_length (by rw [hP]; omega), List.take_append_of_le_length (by rw [List.length_drop, hP]; exact Nat.le_refl _), List.take_of_length_le (by rw [List.length_drop, hP]; exact Nat.le_refl _)]
  have happ : ∃ s1, (∀ {α : Type} (f : AV → Store → Option α), aAppend 1 8 (.sl r 0 i 1 (L.length + m)) (.sl r (i + 1) (L.length - (i + 1)) 1 (L.length + m)) s f = f (.sl r 0 (L.length - 1) 1 (L.length + m)) s1) ∧ s1.get r = .cells (putAll (L.map Part.ptr ++ List.replicate m AV.nilptr) i ((L.map Part.ptr).drop (i + 1))) false ∧ Fr1 r s s1 := by
    have hc : ∀ {α : Type} (f : Nat → List AV → Option α), aCellsOf 1 (.sl r (i + 1) (L.length - (i + 1)) 1 (L.length + m)) s f = f (L.length - (i + 1)) ((L.map Part.ptr).drop (i + 1)) := fun f => by
      simp only [aCellsOf, aRow, h3, hrow, if_true]
      rw [if_pos (by omega), hnew]
    by_cases hz : L.length - (i + 1) = 0
    · refine ⟨s, fun f => ?_, ?_, Fr1.refl _ _⟩
      · simp only [aAppend, hc, aOwn, h3, hrow, if_true]
        rw [if_pos hz, show i = L.length - 1 by omega]
      · rw [List.drop_eq_nil_of_le (by rw [hP]; omega)]; exact h3
    · refine ⟨s.set r (.cells (putAll (L.map Part.ptr ++ List.replicate m AV.nilptr) i ((L.map Part.ptr).drop (i + 1))) false), fun f => ?_, by rw [get_set, if_pos rfl], Fr1.set _ _ _⟩
      simp only [aAppend, hc, aOwn, h3, hrow, if_true]
      rw [if_neg hz, if_neg (by omega), if_pos ⟨by omega, by omega⟩, show i + (L.length - (i + 1)) = L.length - 1 by omega, Nat.zero_add, Nat.mul_one]
  obtain ⟨s1, a1, a2, a3⟩ := happ
  have hlen1 : (putAll (L.map Part.ptr ++ List.replicate m AV.nilptr) i ((L.map Part.ptr).drop (i + 1))).length = L.length + m := by rw [putAll_length, hrow]
  have hclr : ∀ {α : Type} (f : Store → Option α), aClear [AV.nilptr] 1 (.sl r (L.length - 1) (L.length - (L.length - 1)) 1 (L.length + m)) s1 f = f (s1.set r (.cells ((L.eraseIdx i).map Part.ptr ++ List.replicate (m + 1) AV.nilptr) false)) := fun f => by
    have h1 : L.length - (L.length - 1) = 1 := by omega
    rw [h1]
    simp only [aClear, aOwn, a2, hlen1, if_true]
    rw [if_neg (by omega), if_pos (by omega)]
    have := shift_list (L.map Part.ptr) .nilptr m i (by rw [hP]; exact hi)
    rw [hP] at this
    rw [show (List.replicate 1 [AV.nilptr]).flatten = [AV.nilptr] from rfl, this]
    congr 4
    apply List.ext_getElem?
    intro j
    simp only [List.getElem?_eraseIdx, List.getElem?_map]
    split <;> rfl
  have hr2 : L.length - 1 ≤ L.length := by omega
  have hlen2 : ∀ {α : Type} (f : AV → Option α), aLen (.sl r 0 (L.length - 1) 1 (L.length + m)) f = f (.int .i64 ((L.length - 1 : Nat) : Int)) := fun f => rfl
  simp only [bnd, guard_tt, guard_ff, guard_tf, guard_ft, pick_t, pick_f, if_t, if_f, add_i, sub_i, lss_i, leq_i, gtr_i, geq_i, eql_i, neq_i, min_i, max_i, conv_i, len_sl, len_nil, not_b, cells_agg, new_s, fld_p, nil_p, hcap, hne, cut_hi (show i ≤ L.length by omega), cut_lo (show i + 1 ≤ L.length by omega), a1, hlen2, cut_room hr2 (show L.length ≤ L.length + m by omega), hclr]
  refine ⟨_, _, r, rfl, .inr ⟨r, m + 1, ?_, Nat.lt_of_lt_of_le h2 a3.next, by rw [get_set, if_pos rfl], rfl⟩, rfl, a3.trans (Fr1.set _ _ _), rfl⟩
  rw [List.length_eraseIdx, if_pos hi]
  congr 1
  omega

theorem rows_sub {L L' : List Part} (h : L'.Sublist L) : (L'.map Part.rows).flatten.Sublist (L.map Part.rows).flatten := by
  induction h with
  | slnil => exact List.Sublist.refl _
  | cons a _ ih => rw [List.map_cons, List.flatten_cons]; exact ih.trans (List.sublist_append_right _ _)
  | cons_cons a _ ih => rw [List.map_cons, List.map_cons, List.flatten_cons, List.flatten_cons]; exact List.Sublist.append_left ih _
/-- The list of parts is another one, of some of these parts, at the same row. -/
theorem IsG.relist {L' : List Part} {pv' : AV} {r : Nat} {s1 : Store} (h : IsG s gid g pv rr) (hsub : L'.Sublist g.L) (hp : Ptrs s1 pv' L' rr) (hf : Fr1 r s s1) (hr : rr = [r]) :
    IsG (s1.set gid (.cells (gcells { g with L := L' } pv') false)) gid { g with L := L' } pv' rr := by
  subst hr
  have hn := List.nodup_cons.1 h.nodup
  have hn2 := List.nodup_cons.1 hn.2
  have hrg : r ≠ gid := fun e => hn.1 (by simp [e])
  refine ⟨by rw [get_set, if_pos rfl], hp.keep (Nat.le_refl _) fun x hx => by rw [List.mem_singleton.1 hx, get_set, if_neg hrg], ?_, ?_, Nat.lt_of_lt_of_le h.lt hf.next, h.cnt⟩
  · exact h.nodup.sublist (List.Sublist.cons_cons _ (List.Sublist.append_left (rows_sub hsub) _))
  · intro q hq
    have hq' := hsub.subset hq
    have hm : ∀ x ∈ q.rows, x ∈ (g.L.map Part.rows).flatten := fun x hx => List.mem_flatten.2 ⟨_, List.mem_map.2 ⟨q, hq', rfl⟩, hx⟩
    refine (h.parts q hq').keep hf.next fun x hx => ?_
    have h1 : x ≠ gid := fun e => hn.1 (e ▸ List.mem_append_right _ (hm x hx))
    have h2 : x ≠ r := fun e => hn2.1 (e ▸ hm x hx)
    rw [get_set, if_neg h1]
    exact hf.get x ((h.parts q hq').lt x hx) h2

def gnew (a b c : Int) : GS := ⟨max 1 (min a 65536), max 0 (min b 1048576), max c (max 0 (min b 1048576)), [], (0, 0), [0, 0, 0, 0, 0, 0]⟩
theorem gnew_run (a b c : Int) (k : Nat) (s : Store) : ∃ s', rn (k + 1) 6 [.int .i64 a, .int .i64 b, .int .i64 c] s = some (.ptr s.next 0 12, s') ∧ IsG s' s.next (gnew a b c) .nilsl [] ∧ Ext s s' := by
  rw [gather_New.eq]
  unfold gather_New.f gather_New.p0
  have hb : ∀ (x y z : Int) {α : Type} (f : List AV → Option α), aBuild [(0, 1, .int .i64 x), (1, 1, .int .i64 y), (2, 1, .int .i64 z)] [AV.int .i64 0, AV.int .i64 0, AV.int .i64 0, AV.nilsl, AV.int .u8 0, AV.int .u64 0, AV.int .i64 0, AV.int .i64 0, AV.int .i64 0, AV.int .i64 0, AV.int .i64 0, AV.int .i64 0] f = f [.int .i64 x, .int .i64 y, .int .i64 z, AV.nilsl, AV.int .u8 0, AV.int .u64 0, AV.int .i64 0, AV.int .i64 0, AV.int .i64 0, AV.int .i64 0, AV.int .i64 0, AV.int .i64 0] := fun x y z α f => rfl
  simp only [bnd, guard_tt, guard_ff, guard_tf, guard_ft, pick_t, pick_f, if_t, if_f, add_i, sub_i, lss_i, leq_i, gtr_i, geq_i, eql_i, neq_i, min_i, max_i, conv_i, len_sl, len_nil, not_b, cells_agg, new_s, fld_p, nil_p, hb, List.length_cons, List.length_nil]
  refine ⟨_, rfl, ⟨?_, .inl ⟨rfl, rfl, rfl⟩, by simp [gnew], fun q hq => by simp [gnew] at hq, Nat.lt_succ_self _, rfl⟩, Ext.push _ _⟩
  rw [get_push, if_pos rfl]
  rfl

theorem want_run (h : IsG s gid g pv rr) (x : Int × Int) (k : Nat) : ∃ s', rn (k + 1) 11 [.ptr gid 0 12, .agg [.int .u8 x.1, .int .u64 x.2]] s = some (.tuple [], s') ∧ IsG s' gid { g with wanted := x } pv rr ∧ Fr1 gid s s' := by
  rw [gather_Gather_Want.eq]
  unfold gather_Gather_Want.f gather_Gather_Want.p0
  have e := Ext.push s (.cells [.int .u8 x.1, .int .u64 x.2] false)
  have hc : (s.push (.cells [.int .u8 x.1, .int .u64 x.2] false)).get s.next = .cells [.int .u8 x.1, .int .u64 x.2] false := by rw [get_push, if_pos rfl]
  have h' := h.ext e
  have l1 : ∀ {α : Type} (f : AV → Option α), aLoadN 2 (.ptr s.next 0 2) (s.push (.cells [.int .u8 x.1, .int .u64 x.2] false)) f = f (.agg [.int .u8 x.1, .int .u64 x.2]) := fun f => load_n hc rfl (by decide)
  have st : ∀ {α : Type} (f : Store → Option α), aStore 2 (.ptr gid (0 + 4) 12) (.agg [.int .u8 x.1, .int .u64 x.2]) (s.push (.cells [.int .u8 x.1, .int .u64 x.2] false)) f = f ((s.push (.cells [.int .u8 x.1, .int .u64 x.2] false)).set gid (.cells (gcells { g with wanted := x } pv) false)) := fun f => by
    simp only [aStore, aCells, aOwn, h'.st, gcells_len g pv h.cnt, if_true]
    rw [if_pos ⟨rfl, by decide⟩]
    rfl
  simp only [bnd, guard_tt, guard_ff, guard_tf, guard_ft, pick_t, pick_f, if_t, if_f, add_i, sub_i, lss_i, leq_i, gtr_i, geq_i, eql_i, neq_i, min_i, max_i, conv_i, len_sl, len_nil, not_b, cells_agg, new_s, fld_p, nil_p, eq_pn, Bool.not_false, List.length_cons, List.length_nil, l1, st]
  exact ⟨_, rfl, h'.own rfl h.cnt, (e.fr1 gid).trans (Fr1.set _ _ _)⟩
end Go.Proofs.YtmkdpenpfkmfpaaDoor.Sim
namespace Go.Proofs.YtmkdpenpfkmfpaaDoor.Sim
set_option linter.unusedSimpArgs false
set_option linter.unusedVariables false
variable {s s' : Store} {gid : Nat} {g : GS} {pv : AV} {rr : List Nat}

theorem app_ptr {L : List Part} {q : Part} {y : Nat} (h : Ptrs s pv L rr) (hy : s.get y = .cells [q.ptr] false) (hL : L.length ≤ 1000000) :
    ∃ pv' s' r, (∀ {α : Type} (f : AV → Store → Option α), aAppend 1 8 pv (.sl y 0 1 1 1) s f = f pv' s') ∧ Ptrs s' pv' (L ++ [q]) [r] ∧ ((rr = [r] ∧ Fr1 r s s') ∨ (rr = [] ∧ r = s.next ∧ Ext s s')) ∧ pv'.one = true ∧ r < s'.next ∧ s.next ≤ s'.next := by
  have hc : ∀ {α : Type} (f : Nat → List AV → Option α), aCellsOf 1 (.sl y 0 1 1 1) s f = f 1 [q.ptr] := fun f => by
    simp only [aCellsOf, aRow, hy, if_true, List.length_cons, List.length_nil]
    rfl
  rcases h with ⟨rfl, rfl, rfl⟩ | ⟨r, m, rfl, h2, h3, rfl⟩
  · refine ⟨.sl s.next 0 1 1 (1 * 1), s.push (.cells [q.ptr] false), s.next, fun f => ?_, .inr ⟨s.next, 0, rfl, Nat.lt_succ_self _, by rw [get_push, if_pos rfl]; rfl, rfl⟩, .inr ⟨rfl, rfl, Ext.push _ _⟩, rfl, Nat.lt_succ_self _, Nat.le_succ _⟩
    simp only [aAppend, hc]
    rw [if_neg (by decide), if_pos (by decide)]
  · have hrow : (L.map Part.ptr ++ List.replicate m AV.nilptr).length = L.length + m := by simp
    cases m with
    | zero =>
      refine ⟨.sl r 0 (L.length + 1) 1 (L.length + 0 + 1 * 1), s.set r (.cells ((L.map Part.ptr ++ List.replicate 0 AV.nilptr) ++ [q.ptr]) false), r, fun f => ?_, .inr ⟨r, 0, by simp, h2, by rw [get_set, if_pos rfl]; simp, rfl⟩, .inl ⟨rfl, Fr1.set _ _ _⟩, rfl, h2, Nat.le_refl _⟩
      simp only [aAppend, hc, aOwn, h3, hrow, if_true]
      rw [if_neg (by decide), if_pos ⟨by omega, by omega, by decide, by decide⟩]
    | succ m =>
      have hput : putAll (L.map Part.ptr ++ List.replicate (m + 1) AV.nilptr) L.length [q.ptr] = (L ++ [q]).map Part.ptr ++ List.replicate m AV.nilptr := by
        simp only [putAll]
        rw [List.set_append_right _ _ (by simp)]
        simp [List.replicate_succ]
      refine ⟨.sl r 0 (L.length + 1) 1 (L.length + (m + 1)), s.set r (.cells ((L ++ [q]).map Part.ptr ++ List.replicate m AV.nilptr) false), r, fun f => ?_, .inr ⟨r, m, by simp; omega, h2, by rw [get_set, if_pos rfl], rfl⟩, .inl ⟨rfl, Fr1.set _ _ _⟩, rfl, h2, Nat.le_refl _⟩
      simp only [aAppend, hc, aOwn, h3, hrow, if_true]
      rw [if_neg (by decide), if_neg (by omega), if_pos ⟨by omega, by decide⟩, Nat.zero_add, Nat.mul_one, hput]

/-- A part more, of rows that lie nowhere else. -/
theorem IsG.add {q : Part} {pv' : AV} {r : Nat} {s1 : Store} (h : IsG s gid g pv rr) (hq : PartAt s q) (hfr : ∀ x ∈ q.rows, x ∉ gid :: (rr ++ (g.L.map Part.rows).flatten)) (hqn : q.rows.Nodup) (hp : Ptrs s1 pv' (g.L ++ [q]) [r])
    (hf : (rr = [r] ∧ Fr1 r s s1) ∨ (rr = [] ∧ r = s.next ∧ Ext s s1)) (hn1 : s.next ≤ s1.next) :
    IsG (s1.set gid (.cells (gcells { g with L := g.L ++ [q] } pv') false)) gid { g with L := g.L ++ [q] } pv' [r] := by
  have hrows := h.rows_lt
  have hrn : r ∉ gid :: (g.L.map Part.rows).flatten ∧ r ∉ q.rows := by
    rcases hf with ⟨rfl, _⟩ | ⟨rfl, rfl, _⟩
    · have hn := List.nodup_cons.1 h.nodup
      have hn2 := List.nodup_cons.1 hn.2
      refine ⟨fun e => ?_, fun e => hfr r e (by simp)⟩
      rcases List.mem_cons.1 e with e | e
      · exact hn.1 (by simp [e])
      · exact hn2.1 e
    · refine ⟨fun e => ?_, fun e => Nat.lt_irrefl _ (hq.lt _ e)⟩
      have : s.next < s.next := hrows s.next (by
        rcases List.mem_cons.1 e with e | e
        · rw [e]; simp
        · exact List.mem_cons_of_mem _ (List.mem_append_right _ e))
      exact Nat.lt_irrefl _ this
  have hget : ∀ x, x < s.next → x ≠ r → s1.get x = s.get x := fun x hx hne => by
    rcases hf with ⟨_, e⟩ | ⟨_, _, e⟩
    · exact e.get x hx hne
    · exact e.get x hx
  have hnd : (gid :: (g.L.map Part.rows).flatten).Nodup := h.nodup.sublist (List.Sublist.cons_cons _ (List.sublist_append_right _ _))
  have hgr : gid ≠ r := fun e => hrn.1 (by simp [e])
  refine ⟨by rw [get_set, if_pos rfl], hp.keep (Nat.le_refl _) fun x hx => by rw [List.mem_singleton.1 hx, get_set, if_neg (Ne.symm hgr)], ?_, ?_, Nat.lt_of_lt_of_le h.lt hn1, h.cnt⟩
  · have hq2 : ∀ x ∈ q.rows, x ∉ gid :: (g.L.map Part.rows).flatten := fun x hx e => hfr x hx (by
      rcases List.mem_cons.1 e with e | e
      · rw [e]; simp
      · exact List.mem_cons_of_mem _ (List.mem_append_right _ e))
    have hnd' := List.nodup_cons.1 hnd
    show (gid :: ([r] ++ ((g.L ++ [q]).map Part.rows).flatten)).Nodup
    rw [List.map_append, List.flatten_append, List.map_singleton, List.flatten_cons, List.flatten_nil, List.append_nil, List.singleton_append]
    refine List.nodup_cons.2 ⟨fun e => ?_, List.nodup_cons.2 ⟨fun e => ?_, List.nodup_append.2 ⟨hnd'.2, hqn, fun a ha b hb e => hq2 b hb (by rw [← e]; exact List.mem_cons_of_mem _ ha)⟩⟩⟩
    · rcases List.mem_cons.1 e with e | e
      · exact hgr e
      · rcases List.mem_append.1 e with e | e
        · exact hnd'.1 e
        · exact hq2 gid e (by simp)
    · rcases List.mem_append.1 e with e | e
      · exact hrn.1 (List.mem_cons_of_mem _ e)
      · exact hrn.2 e
  · intro p hp2
    rcases List.mem_append.1 hp2 with hp2 | hp2
    · have hm : ∀ x ∈ p.rows, x ∈ (g.L.map Part.rows).flatten := fun x hx => List.mem_flatten.2 ⟨_, List.mem_map.2 ⟨p, hp2, rfl⟩, hx⟩
      refine (h.parts p hp2).keep hn1 fun x hx => ?_
      have n1 : ¬ x = gid := fun e => (List.nodup_cons.1 hnd).1 (by rw [← e]; exact hm x hx)
      have n2 : ¬ x = r := fun e => hrn.1 (by rw [← e]; exact List.mem_cons_of_mem _ (hm x hx))
      rw [get_set, if_neg n1, hget x ((h.parts p hp2).lt x hx) n2]
    · rw [List.mem_singleton.1 hp2]
      refine hq.keep hn1 fun x hx => ?_
      have n1 : ¬ x = gid := fun e => hfr x hx (by rw [e]; simp)
      have n2 : ¬ x = r := fun e => hrn.2 (by rw [← e]; exact hx)
      rw [get_set, if_neg n1, hget x (hq.lt x hx) n2]

/-- What is as it was, but for some rows. -/
structure FrS (S : List Nat) (s s' : Store) : Prop where
  next : s.next ≤ s'.next
  get : ∀ l, l < s.next → l ∉ S → s'.get l = s.get l
theorem FrS.refl (S : List Nat) (s : Store) : FrS S s s := ⟨Nat.le_refl _, fun _ _ _ => rfl⟩
theorem FrS.trans {S S' : List Nat} {s s' s'' : Store} (h : FrS S s s') (k : FrS S' s' s'') (hS : ∀ l ∈ S', l ∈ S ∨ s.next ≤ l) : FrS S s s'' :=
  ⟨Nat.le_trans h.next k.next, fun l hl hn => (k.get l (Nat.lt_of_lt_of_le hl h.next) fun e => by rcases hS l e with q | q; exact hn q; omega).trans (h.get l hl hn)⟩
theorem Ext.frS {s s' : Store} (h : Ext s s') (S : List Nat) : FrS S s s' := ⟨h.next, fun l hl _ => h.get l hl⟩
theorem Fr1.frS {x : Nat} {s s' : Store} (h : Fr1 x s s') {S : List Nat} (hx : x ∈ S) : FrS S s s' := ⟨h.next, fun l hl hn => h.get l hl fun e => hn (e ▸ hx)⟩

theorem hide_nil (s : Store) : hideL [] s = s := by unfold hideL; simp

theorem Ext.reserveG (n : Nat) (s : Store) : Ext s (Sim.reserve n s) := ⟨by simp [Sim.reserve], fun l hl => by simp only [Sim.reserve, if_pos hl]⟩
/-- A new part's words, and its bytes. -/
def newW (of : Int) : List Nat := List.replicate (((max 0 (min of 1048576)).toNat + 63) / 64) 0
theorem mk_bytes {n : Nat} (h : n ≤ 4294967296) (t : Store) {α : Type} (f : AV → Store → Option α) : aMakeSlice [AV.int .u8 0] 1 1 (.int .i64 (n : Int)) (.int .i64 (n : Int)) t f = f (.sl t.next 0 n 1 n) (t.push (.cells ((List.replicate n (0 : Int)).map (.int .u8)) false)) := by
  simp only [aMakeSlice]
  rw [if_pos ⟨by omega, by omega, by omega, by omega⟩, Int.toNat_natCast, Nat.mul_one]
  congr 3
  simp [List.map_replicate]

theorem admit_end {fp : Nat} {f : Frm} (h : IsG s gid g pv rr) (hf : s.get fp = .cells f.cells false) (hfl : fp < s.next) (hw : f.Wf) (hsz : f.size ≤ 1048576) (hL : g.L.length ≤ 1000000) (k : Nat) :
    ∃ s' pv' r q, gather_Gather_admit.p1 (k + 1) (.ptr gid 0 12) (.ptr fp 0 16) (.int .i64 f.size) s = some (.bool true, s') ∧ IsG s' gid { g with L := g.L ++ [q] } pv' [r] ∧ (q.id = f.id ∧ q.n = (max 0 (min f.of 1048576)).toNat ∧ q.W = newW f.of ∧ q.b = List.replicate f.size.toNat 0) ∧
      (rr = [r] ∨ (rr = [] ∧ s.next ≤ r)) ∧ (∀ x ∈ q.rows, s.next ≤ x) ∧ FrS (gid :: rr) s s' := by
  unfold gather_Gather_admit.p1 gather_Gather_admit.p0
  obtain ⟨n, hn⟩ : ∃ n : Nat, f.size = n := ⟨f.size.toNat, by have := hw.size0; omega⟩
  have er := Ext.reserveG 20 s
  have hR := h.ext er
  have hfR : (reserve 20 s).get fp = .cells f.cells false := (er.get fp hfl).trans hf
  have hw1 : IntKind.i64.wrap f.of = f.of := w_i64 (by have := hw.of0; omega) (by have := hw.of0; omega)
  obtain ⟨s1, b1, b2, b3, b4⟩ := bits_new f.of (by have := hw.of0; omega) k (reserve 20 s)
  have hnx : (reserve 20 s).next = s.next + 20 := rfl
  rw [hnx] at b1 b2 b4
  have h1 := hR.ext b3
  have hf1 : s1.get fp = .cells f.cells false := (b3.get fp (by rw [hnx]; omega)).trans hfR
  have ldR : ∀ {α : Type} (f : AV → Option α), aLoad1 (.ptr gid (0 + 3) 12) (reserve 20 s) f = f pv := fun f => g_ld hR.st (gcells_len g pv h.cnt) rfl f
  have ld1 : ∀ {α : Type} (f : AV → Option α), aLoad1 (.ptr gid (0 + 3) 12) s1 f = f pv := fun f => g_ld h1.st (gcells_len g pv h.cnt) rfl f
  have ldf : ∀ {α : Type} (g : AV → Option α), aLoad1 (.ptr fp (0 + 7) 16) (reserve 20 s) g = g (.int .u32 f.of) := fun g => g_ld hfR rfl rfl g
  have ldi : ∀ {t : Store}, t.get fp = .cells f.cells false → ∀ {α : Type} (g : AV → Option α), aLoadN 2 (.ptr fp (0 + 3) 16) t g = g (.agg [.int .u8 f.id.1, .int .u64 f.id.2]) := fun {t} ht {α} g => load_n ht rfl (by show 3 + 2 ≤ 16; decide)
  have hone : pv.one = true := by rcases h.ptrs with ⟨rfl, _⟩ | ⟨r, m, rfl, _⟩ <;> rfl
  simp only [bnd, guard_tt, guard_ff, guard_tf, guard_ft, pick_t, pick_f, if_t, if_f, add_i, sub_i, lss_i, leq_i, gtr_i, geq_i, eql_i, neq_i, min_i, max_i, conv_i, len_sl, len_nil, not_b, cells_agg, new_s, fld_p, nil_p, ldR, ldf, hw1, b1, hide_nil, ld1, aSame_self, ldi hf1, ldi hfR, hn, atRow, mk_bytes (show n ≤ 4294967296 by omega), Option.map_some]
  have hb1 : ∀ {α : Type} (g : List AV → Option α), aBuild [(0, 1, .ptr (s.next + 20 + 1) 0 2), (1, 2, .agg [.int .u8 f.id.1, .int .u64 f.id.2]), (3, 1, .sl (s.next + 12) 0 n 1 n)] [AV.nilptr, AV.int .u8 0, AV.int .u64 0, AV.nilsl] g = g [.ptr (s.next + 20 + 1) 0 2, .int .u8 f.id.1, .int .u64 f.id.2, .sl (s.next + 12) 0 n 1 n] := fun g => rfl
  have hb2 : ∀ (x : Nat) {α : Type} (g : List AV → Option α), aBuild [(0, 1, .ptr x 0 4)] [AV.nilptr] g = g [.ptr x 0 4] := fun x α g => rfl
  simp only [hb1, bnd, cells_agg, List.length_cons, List.length_nil, Nat.zero_add, Nat.reduceAdd]
  obtain ⟨sC, hsC⟩ : ∃ x : Store, x = ({ next := s1.next, get := (({ next := s.next + 12, get := s1.get } : Store).push (AObj.cells (List.map (AV.int IntKind.u8) (List.replicate n 0)) false)).get } : Store).push (.cells [.ptr (s.next + 20 + 1) 0 2, .int .u8 f.id.1, .int .u64 f.id.2, .sl (s.next + 12) 0 n 1 n] false) := ⟨_, rfl⟩
  have hCn : sC.next = s1.next + 1 := by rw [hsC]; rfl
  have hC : ∀ l, sC.get l = if l = s1.next then .cells [.ptr (s.next + 20 + 1) 0 2, .int .u8 f.id.1, .int .u64 f.id.2, .sl (s.next + 12) 0 n 1 n] false else if l = s.next + 12 then .cells (List.map (AV.int IntKind.u8) (List.replicate n 0)) false else s1.get l := fun l => by rw [hsC]; rfl
  rw [← hsC]
  clear hsC
  have e1 : Ext s s1 := er.trans b3
  have eC : Ext s sC := ⟨by omega, fun l hl => by rw [hC, if_neg (by omega), if_neg (by omega)]; exact e1.get l hl⟩
  have hgl := h.lt
  have ldC : ∀ {α : Type} (f : AV → Option α), aLoad1 (.ptr gid (0 + 3) 12) (hideL [s.next + 12] sC) f = f pv := fun f => g_ld (cs := gcells g pv) (ro := false) (by
    show (if gid ∈ [s.next + 12] then AObj.none else sC.get gid) = _
    rw [if_neg (by simp; omega)]
    exact (eC.get gid hgl).trans h.st) (gcells_len g pv h.cnt) rfl f
  simp only [ldC, bnd, aSame_self, hb2, Option.map_some]
  obtain ⟨sD, hsD⟩ : ∃ x : Store, x = ({ next := sC.next, get := (({ next := s.next + 15, get := sC.get } : Store).push (AObj.cells [AV.ptr s1.next 0 4] false)).get } : Store) := ⟨_, rfl⟩
  have hDn : sD.next = s1.next + 1 := by rw [hsD]; exact hCn
  have hD : ∀ l, sD.get l = if l = s.next + 15 then .cells [AV.ptr s1.next 0 4] false else sC.get l := fun l => by rw [hsD]; rfl
  rw [← hsD]
  clear hsD
  have eD : Ext s sD := ⟨by omega, fun l hl => by rw [hD, if_neg (by omega)]; exact eC.get l hl⟩
  have hGD := h.ext eD
  have hq : PartAt sD ⟨s1.next, s.next + 20 + 1, s.next + 20, s.next + 12, f.id, (max 0 (min f.of 1048576)).toNat, newW f.of, List.replicate n 0⟩ := by
    refine ⟨?_, b2.keep ?_ ?_ (by omega), ?_, by (show s1.next < sD.next); omega, by (show s.next + 12 < sD.next); omega, by simp; omega⟩
    · show sD.get s1.next = _
      rw [hD, if_neg (by omega), hC, if_pos rfl]
      simp
    · rw [hD, if_neg (by omega), hC, if_neg (by omega), if_neg (by omega)]
    · rw [hD, if_neg (by omega), hC, if_neg (by omega), if_neg (by omega)]
    · show sD.get (s.next + 12) = _
      rw [hD, if_neg (by omega), hC, if_neg (by omega), if_pos rfl]
  obtain ⟨pv', s5, r, a1, a2, a3, a4, a5, a6⟩ := app_ptr (y := s.next + 15) hGD.ptrs (q := ⟨s1.next, s.next + 20 + 1, s.next + 20, s.next + 12, f.id, (max 0 (min f.of 1048576)).toNat, newW f.of, List.replicate n 0⟩) (by rw [hD, if_pos rfl]; rfl) hL
  have hold : ∀ x ∈ gid :: (rr ++ (g.L.map Part.rows).flatten), x < s.next := h.rows_lt
  have hrow : ∀ x ∈ Part.rows ⟨s1.next, s.next + 20 + 1, s.next + 20, s.next + 12, f.id, (max 0 (min f.of 1048576)).toNat, newW f.of, List.replicate n 0⟩, s.next ≤ x := by
    intro x hx
    simp only [Part.rows, List.mem_cons, List.not_mem_nil, or_false] at hx
    omega
  have hadd := hGD.add hq (fun x hx e => by have := hold x e; have := hrow x hx; omega) (by simp [Part.rows]; omega) a2 a3 a6
  have g5 : s5.get gid = .cells (gcells g pv) false := by
    rcases a3 with ⟨hr, e⟩ | ⟨_, _, e⟩
    · refine (e.get gid hGD.lt fun q => ?_).trans hGD.st
      exact (List.nodup_cons.1 h.nodup).1 (by rw [hr, q]; simp)
    · exact (e.get gid hGD.lt).trans hGD.st
  have hst := fun {α : Type} (f : Store → Option α) => g_st (j := 0 + 3) (v := pv') g5 (gcells_len g pv h.cnt) (by decide) a4 f
  have hset : (gcells g pv).set (0 + 3) pv' = gcells { g with L := g.L ++ [⟨s1.next, s.next + 20 + 1, s.next + 20, s.next + 12, f.id, (max 0 (min f.of 1048576)).toNat, newW f.of, List.replicate n 0⟩] } pv' := rfl
  simp only [a1, bnd, hst, hset]
  refine ⟨_, pv', r, _, rfl, hadd, ⟨rfl, rfl, rfl, by rw [Int.toNat_natCast]⟩, ?_, hrow, ?_⟩
  · rcases a3 with ⟨hr, _⟩ | ⟨hr, hr2, _⟩
    · exact .inl hr
    · exact .inr ⟨hr, by omega⟩
  · refine ⟨Nat.le_trans (by omega) a6, fun l hl hn2 => ?_⟩
    have n1 : l ≠ gid := fun e => hn2 (by simp [e])
    rw [get_set, if_neg n1]
    rcases a3 with ⟨hr, e⟩ | ⟨_, _, e⟩
    · exact (e.get l (by omega) (fun q => hn2 (by rw [hr, q]; simp))).trans (eD.get l hl)
    · exact (e.get l (by omega)).trans (eD.get l hl)
end Go.Proofs.YtmkdpenpfkmfpaaDoor.Sim
namespace Go.Proofs.YtmkdpenpfkmfpaaDoor.Sim
set_option linter.unusedSimpArgs false
set_option linter.unusedVariables false
variable {s s' : Store} {gid : Nat} {g : GS} {pv : AV} {rr : List Nat}

/-- Parts are dropped in front till no more bytes are used than so many; each is counted. -/
def cutG (lim : Int) : List Part → List Int → List Part × List Int
  | [], c => ([], c)
  | q :: l, c => if ((usedL (q :: l) : Nat) : Int) > lim then cutG lim l (countC c 3) else (q :: l, c)
theorem cutG_cnt (lim : Int) : ∀ (L : List Part) (c : List Int), (cutG lim L c).2.length = c.length
  | [], c => rfl
  | q :: l, c => by
    simp only [cutG]
    split
    · rw [cutG_cnt lim l, countC_len]
    · rfl
theorem cutG_len (lim : Int) : ∀ (L : List Part) (c : List Int), (cutG lim L c).1.length ≤ L.length
  | [], c => Nat.le_refl _
  | q :: l, c => by
    simp only [cutG]
    split
    · exact Nat.le_succ_of_le (cutG_len lim l _)
    · exact Nat.le_refl _
theorem cutG_used {lim : Int} (h0 : 0 ≤ lim) : ∀ (L : List Part) (c : List Int), ((usedL (cutG lim L c).1 : Nat) : Int) ≤ lim
  | [], c => by simpa [cutG, usedL] using h0
  | q :: l, c => by
    simp only [cutG]
    split
    · exact cutG_used h0 l _
    · rename_i h; exact Int.not_lt.1 h

theorem admit_step (h : IsG s gid g pv rr) (hL : g.L.length ≤ 1000000) {fp : Nat} (hr : 0 ≤ g.room ∧ g.room < 9223372036854775808) {sz : Int} (hs : 0 ≤ sz ∧ sz ≤ 1048576) (k : Nat) (hk : g.L.length < k) (R : AV → AV → AV → Store → Option (AV × Store)) :
    gather_Gather_admit.p6 (k + 1) R (.ptr gid 0 12) (.ptr fp 0 16) (.int .i64 sz) s = gather_Gather_admit.p5 (k + 1) R (.ptr gid 0 12) (.ptr fp 0 16) (.int .i64 sz) (.bool (decide (((usedL g.L : Nat) : Int) > g.room - sz))) s := by
  unfold gather_Gather_admit.p6
  have hu := used_run h hL k hk
  have ld : ∀ {α : Type} (f : AV → Option α), aLoad1 (.ptr gid (0 + 2) 12) s f = f (.int .i64 g.room) := fun f => g_ld h.st (gcells_len g pv h.cnt) rfl f
  have hw : IntKind.i64.wrap (g.room - sz) = g.room - sz := w_i64 (by omega) (by omega)
  simp only [bnd, guard_tt, guard_ff, guard_tf, guard_ft, pick_t, pick_f, if_t, if_f, add_i, sub_i, lss_i, leq_i, gtr_i, geq_i, eql_i, neq_i, min_i, max_i, conv_i, len_sl, len_nil, not_b, cells_agg, new_s, fld_p, nil_p, hu, ld, aSame_self, hw]

theorem admit_loop {fp : Nat} {f : Frm} (hs : 0 ≤ f.size ∧ f.size ≤ 1048576) (hr : f.size ≤ g.room ∧ g.room < 9223372036854775808) (hw : g.wanted = f.id) (hfg : fp ≠ gid) (hfr : fp ∉ rr) (k : Nat) : ∀ (L : List Part) (m : Nat) (s : Store) (c : List Int) (pv : AV), L.length < m → L.length < k → L.length ≤ 1000000 →
    IsG s gid { g with L := L, counts := c } pv rr → s.get fp = .cells f.cells false → fp < s.next →
    ∃ s' pv', gather_Gather_admit.l0 (k + 1) m (.ptr gid 0 12) (.ptr fp 0 16) (.int .i64 f.size) s = gather_Gather_admit.p1 (k + 1) (.ptr gid 0 12) (.ptr fp 0 16) (.int .i64 f.size) s' ∧
      IsG s' gid { g with L := (cutG (g.room - f.size) L c).1, counts := (cutG (g.room - f.size) L c).2 } pv' rr ∧ s'.get fp = .cells f.cells false ∧ FrS (gid :: rr) s s'
  | L, 0, s, c, pv, hm, _, _, _, _, _ => by omega
  | L, m + 1, s, c, pv, hm, hk, hL, h, hf, hfl => by
    have hsx : gather_Gather_admit.l0 (k + 1) (m + 1) = fun x0 x3 x5 s => gather_Gather_admit.p6 (k + 1) (gather_Gather_admit.l0 (k + 1) m) x0 x3 x5 s := rfl
    rw [hsx]
    clear hsx
    simp only
    rw [admit_step (fp := fp) h hL ⟨show 0 ≤ g.room by omega, hr.2⟩ hs k hk]
    unfold gather_Gather_admit.p5
    simp only
    by_cases hu : ((usedL L : Nat) : Int) > g.room - f.size
    · simp only [decide_eq_true hu, if_t]
      cases L with
      | nil => simp [usedL] at hu; omega
      | cons q l =>
        simp only [List.length_cons] at hm hk hL
        unfold gather_Gather_admit.p4 gather_Gather_admit.p3 gather_Gather_admit.p2
        have ldi : ∀ {α : Type} (g : AV → Option α), aLoadN 2 (.ptr fp (0 + 3) 16) s g = g (.agg [.int .u8 f.id.1, .int .u64 f.id.2]) := fun {α} g => load_n hf rfl (by show 3 + 2 ≤ 16; decide)
        have ldw : ∀ {α : Type} (f1 : AV → Option α), aLoadN 2 (.ptr gid (0 + 4) 12) s f1 = f1 (.agg [.int .u8 f.id.1, .int .u64 f.id.2]) := fun {α} f1 => by
          have := load_n (off := 4) (n := 2) (κ := f1) h.st rfl (by rw [gcells_len _ _ h.cnt]; decide)
          rw [gcells_len _ _ h.cnt] at this
          rw [← hw]
          exact this
        have ldp : ∀ {α : Type} (f1 : AV → Option α), aLoad1 (.ptr gid (0 + 3) 12) s f1 = f1 pv := fun f1 => g_ld h.st (gcells_len _ pv h.cnt) rfl f1
        obtain ⟨pv1, s1, r, d1, d2, d3, d4, d5⟩ := del_run h.ptrs (i := 0) (by simp) (by simpa using hL) k
        have d1' : rn (k + 1) 37 [pv, .int .i64 0, .int .i64 1] s = some (pv1, s1) := d1
        have hrg : gid ≠ r := fun e => (List.nodup_cons.1 h.nodup).1 (by rw [d3, e]; simp)
        have g1 : s1.get gid = .cells (gcells { g with L := q :: l, counts := c } pv) false := (d4.get gid h.lt hrg).trans h.st
        have hst := fun {α : Type} (f1 : Store → Option α) => g_st (j := 0 + 3) (v := pv1) g1 (gcells_len _ pv h.cnt) (by decide) d5 f1
        have hre := h.relist (L' := l) (List.sublist_cons_self q l) d2 d4 d3
        have hset : (gcells { g with L := q :: l, counts := c } pv).set (0 + 3) pv1 = gcells { g with L := l, counts := c } pv1 := rfl
        obtain ⟨s2, m1, m2, m3⟩ := makes_run hre (w := 3) (by decide) k
        have m1' : rn (k + 1) 31 [.ptr gid 0 12, .int .u8 3] (s1.set gid (.cells (gcells { g with L := l, counts := c } pv1) false)) = some (.int .u8 3, s2) := m1
        simp only [bnd, guard_tt, guard_ff, guard_tf, guard_ft, pick_t, pick_f, if_t, if_f, add_i, sub_i, lss_i, leq_i, gtr_i, geq_i, eql_i, neq_i, min_i, max_i, conv_i, len_sl, len_nil, not_b, cells_agg, new_s, fld_p, nil_p, ldi, ldw, eq_id, decide_eq_true (show f.id = f.id from rfl), Bool.not_true, if_f, ldp, d1', hst, hset, m1']
        have hfne : fp ≠ r := fun e => hfr (by rw [d3, e]; simp)
        have hf2 : s2.get fp = .cells f.cells false := by
          rw [m3.get fp (Nat.lt_of_lt_of_le hfl d4.next) hfg, get_set, if_neg hfg]
          exact (d4.get fp hfl hfne).trans hf
        have hn2 : s.next ≤ s2.next := Nat.le_trans d4.next m3.next
        obtain ⟨s3, pv3, i1, i2, i3, i4⟩ := admit_loop hs hr hw hfg hfr k l m s2 (countC c 3) pv1 (by omega) (by omega) (by omega) m2 hf2 (Nat.lt_of_lt_of_le hfl hn2)
        refine ⟨s3, pv3, i1, ?_, i3, ⟨Nat.le_trans hn2 i4.next, fun x hx hne => ?_⟩⟩
        · simp only [cutG, if_pos hu]
          exact i2
        · rw [i4.get x (Nat.lt_of_lt_of_le hx hn2) hne]
          have x1 : x ≠ gid := fun e => hne (by simp [e])
          have x2 : x ≠ r := fun e => hne (by rw [d3, e]; simp)
          rw [m3.get x (Nat.lt_of_lt_of_le hx d4.next) x1, get_set, if_neg x1]
          exact d4.get x hx x2
    · simp only [decide_eq_false hu, if_f]
      refine ⟨s, pv, rfl, ?_, hf, FrS.refl _ _⟩
      cases L with
      | nil => exact h
      | cons q l =>
        simp only [cutG, if_neg hu]
        exact h
end Go.Proofs.YtmkdpenpfkmfpaaDoor.Sim
namespace Go.Proofs.YtmkdpenpfkmfpaaDoor.Sim
set_option linter.unusedSimpArgs false
set_option linter.unusedVariables false
variable {s s' : Store}

theorem within_run (a b c : Int) (k : Nat) (s : Store) : rn (k + 1) 55 [.int .i64 a, .int .i64 b, .int .i64 c] s = some (.bool (decide (b ≤ a) && decide (a ≤ c)), s) := by
  rw [chunk_within.eq]
  unfold chunk_within.f chunk_within.p0
  simp only [geq_i]
  by_cases h : b ≤ a
  · simp only [decide_eq_true (show a ≥ b from h), decide_eq_true h, bnd, guard_tt, guard_ff, guard_tf, guard_ft, pick_t, pick_f, if_t, if_f, add_i, sub_i, lss_i, leq_i, gtr_i, geq_i, eql_i, neq_i, min_i, max_i, conv_i, len_sl, len_nil, not_b, cells_agg, new_s, fld_p, nil_p, Bool.true_and]
  · simp only [decide_eq_false (show ¬ a ≥ b from h), decide_eq_false h, bnd, guard_tt, guard_ff, guard_tf, guard_ft, pick_t, pick_f, if_t, if_f, add_i, sub_i, lss_i, leq_i, gtr_i, geq_i, eql_i, neq_i, min_i, max_i, conv_i, len_sl, len_nil, not_b, cells_agg, new_s, fld_p, nil_p, guard_skip, Bool.false_and]
/-- How many chunks so many bytes have; how long one is. -/
def countN (size chunk : Int) : Int := if 0 ≤ size ∧ size ≤ 1048576 ∧ 1 ≤ chunk ∧ chunk ≤ 65536 then max 1 ((size + chunk - 1) / chunk) else 0
def lengthN (size chunk at_ : Int) : Int := if 0 ≤ at_ ∧ at_ ≤ countN size chunk - 1 then min chunk (size - at_ * chunk) else 0
theorem countN_bnd (size chunk : Int) : 0 ≤ countN size chunk ∧ countN size chunk ≤ 1114112 := by
  unfold countN
  split
  · rename_i h
    have h1 : (size + chunk - 1) / chunk ≤ size + chunk - 1 := Int.ediv_le_self _ (by omega)
    omega
  · omega
theorem count_run (a c : Int) (k : Nat) (s : Store) : rn (k + 2) 45 [.int .i64 a, .int .i64 c] s = some (.int .i64 (countN a c), s) := by
  rw [chunk_Count.eq]
  unfold chunk_Count.f chunk_Count.p0
  have w1 := within_run a 0 1048576 k s
  have w2 := within_run c 1 65536 k s
  simp only [w1, bnd]
  by_cases h1 : 0 ≤ a ∧ a ≤ 1048576
  · have e1 : (decide (0 ≤ a) && decide (a ≤ 1048576)) = true := by simp [h1]
    simp only [e1, bnd, guard_tt, guard_ff, guard_tf, guard_ft, pick_t, pick_f, if_t, if_f, add_i, sub_i, lss_i, leq_i, gtr_i, geq_i, eql_i, neq_i, min_i, max_i, conv_i, len_sl, len_nil, not_b, cells_agg, new_s, fld_p, nil_p, Bool.not_true, w2]
    by_cases h2 : 1 ≤ c ∧ c ≤ 65536
    · have e2 : (decide (1 ≤ c) && decide (c ≤ 65536)) = true := by simp [h2]
      have q1 : IntKind.i64.wrap (a + c) = a + c := w_i64 (by omega) (by omega)
      have q2 : IntKind.i64.wrap (a + c - 1) = a + c - 1 := w_i64 (by omega) (by omega)
      have h3 : (a + c - 1) / c ≤ a + c - 1 := Int.ediv_le_self _ (by omega)
      have h4 : 0 ≤ (a + c - 1) / c := Int.ediv_nonneg (by omega) (by omega)
      have q3 : IntKind.i64.wrap ((a + c - 1) / c) = (a + c - 1) / c := w_i64 (by omega) (by omega)
      have hq : ∀ {α : Type} (f : AV → Option α), aBin .quo (.int .i64 (a + c - 1)) (.int .i64 c) f = f (.int .i64 ((a + c - 1) / c)) := fun f => by rw [quo_i (by omega) (by omega), q3]
      simp only [e2, Bool.not_true, bnd, guard_tt, guard_ff, guard_tf, guard_ft, pick_t, pick_f, if_t, if_f, add_i, sub_i, lss_i, leq_i, gtr_i, geq_i, eql_i, neq_i, min_i, max_i, conv_i, len_sl, len_nil, not_b, cells_agg, new_s, fld_p, nil_p, q1, q2, hq]
      rw [countN, if_pos ⟨h1.1, h1.2, h2.1, h2.2⟩]
    · have e2 : (decide (1 ≤ c) && decide (c ≤ 65536)) = false := by
        by_cases z : 1 ≤ c
        · have : ¬ c ≤ 65536 := fun q => h2 ⟨z, q⟩
          simp [this]
        · simp [z]
      simp only [e2, Bool.not_false, bnd, guard_tt, guard_ff, guard_tf, guard_ft, pick_t, pick_f, if_t, if_f, add_i, sub_i, lss_i, leq_i, gtr_i, geq_i, eql_i, neq_i, min_i, max_i, conv_i, len_sl, len_nil, not_b, cells_agg, new_s, fld_p, nil_p]
      rw [countN, if_neg (by omega)]
  · have e1 : (decide (0 ≤ a) && decide (a ≤ 1048576)) = false := by
      by_cases z : 0 ≤ a
      · have : ¬ a ≤ 1048576 := fun q => h1 ⟨z, q⟩
        simp [this]
      · simp [z]
    simp only [e1, bnd, guard_tt, guard_ff, guard_tf, guard_ft, pick_t, pick_f, if_t, if_f, add_i, sub_i, lss_i, leq_i, gtr_i, geq_i, eql_i, neq_i, min_i, max_i, conv_i, len_sl, len_nil, not_b, cells_agg, new_s, fld_p, nil_p, Bool.not_false, guard_skip]
    rw [countN, if_neg (by omega)]
theorem length_run (a c i : Int) (hi : 0 ≤ i ∧ i < 4294967296) (k : Nat) (s : Store) : rn (k + 3) 46 [.int .i64 a, .int .i64 c, .int .i64 i] s = some (.int .i64 (lengthN a c i), s) := by
  rw [chunk_Length.eq]
  unfold chunk_Length.f chunk_Length.p0
  have hc := countN_bnd a c
  have q1 : IntKind.i64.wrap (countN a c - 1) = countN a c - 1 := w_i64 (by omega) (by omega)
  have w1 := within_run i 0 (countN a c - 1) (k + 1) s
  simp only [count_run a c k s, bnd, guard_tt, guard_ff, guard_tf, guard_ft, pick_t, pick_f, if_t, if_f, add_i, sub_i, lss_i, leq_i, gtr_i, geq_i, eql_i, neq_i, min_i, max_i, conv_i, len_sl, len_nil, not_b, cells_agg, new_s, fld_p, nil_p, q1, w1]
  by_cases h : 0 ≤ i ∧ i ≤ countN a c - 1
  · have e1 : (decide (0 ≤ i) && decide (i ≤ countN a c - 1)) = true := by simp [h]
    have hcc : 0 ≤ a ∧ a ≤ 1048576 ∧ 1 ≤ c ∧ c ≤ 65536 := by
      unfold countN at h
      split at h
      · assumption
      · omega
    have h5 : 0 ≤ i * c := Int.mul_nonneg hi.1 (by omega)
    have h6 : i * c ≤ 1114112 * 65536 := Int.mul_le_mul (by omega) hcc.2.2.2 (by omega) (by omega)
    have q2 : IntKind.i64.wrap (i * c) = i * c := w_i64 (by omega) (by omega)
    have q3 : IntKind.i64.wrap (a - i * c) = a - i * c := w_i64 (by omega) (by omega)
    have hm : ∀ {α : Type} (f : AV → Option α), aBin .mul (.int .i64 i) (.int .i64 c) f = f (.int .i64 (i * c)) := fun f => by simp only [aBin, intBin, if_true, q2]
    simp only [e1, Bool.not_true, bnd, guard_tt, guard_ff, guard_tf, guard_ft, pick_t, pick_f, if_t, if_f, add_i, sub_i, lss_i, leq_i, gtr_i, geq_i, eql_i, neq_i, min_i, max_i, conv_i, len_sl, len_nil, not_b, cells_agg, new_s, fld_p, nil_p, hm, q3]
    rw [lengthN, if_pos h]
  · have e1 : (decide (0 ≤ i) && decide (i ≤ countN a c - 1)) = false := by
      by_cases z : 0 ≤ i
      · have : ¬ i ≤ countN a c - 1 := fun q => h ⟨z, q⟩
        simp [this]
      · simp [z]
    simp only [e1, Bool.not_false, bnd, guard_tt, guard_ff, guard_tf, guard_ft, pick_t, pick_f, if_t, if_f, add_i, sub_i, lss_i, leq_i, gtr_i, geq_i, eql_i, neq_i, min_i, max_i, conv_i, len_sl, len_nil, not_b, cells_agg, new_s, fld_p, nil_p]
    rw [lengthN, if_neg h]
def idOk (x : Int × Int) : Bool := decide (x.1 < 64) && (decide (1 ≤ x.2) && decide (x.2 ≤ 4611686018427387904))
theorem idmay_run (x : Int × Int) (hx : 0 ≤ x.1 ∧ x.1 < 256) (k : Nat) (s : Store) : ∃ s', rn (k + 1) 29 [.agg [.int .u8 x.1, .int .u64 x.2], .int .i64 64] s = some (.bool (idOk x), s') ∧ Ext s s' := by
  rw [ident_May.eq]
  unfold ident_May.f ident_May.p0
  have e := Ext.push s (.cells [.int .u8 x.1, .int .u64 x.2] false)
  have hc : (s.push (.cells [.int .u8 x.1, .int .u64 x.2] false)).get s.next = .cells [.int .u8 x.1, .int .u64 x.2] false := by rw [get_push, if_pos rfl]
  have l0 : ∀ {α : Type} (f : AV → Option α), aLoad1 (.ptr s.next (0 + 0) 2) (s.push (.cells [.int .u8 x.1, .int .u64 x.2] false)) f = f (.int .u8 x.1) := fun f => g_ld hc rfl rfl f
  have l1 : ∀ {α : Type} (f : AV → Option α), aLoad1 (.ptr s.next (0 + 1) 2) (s.push (.cells [.int .u8 x.1, .int .u64 x.2] false)) f = f (.int .u64 x.2) := fun f => g_ld hc rfl rfl f
  have hw : IntKind.i64.wrap x.1 = x.1 := w_i64 (by omega) (by omega)
  have hm : min (64 : Int) 64 = 64 := rfl
  simp only [bnd, guard_tt, guard_ff, guard_tf, guard_ft, pick_t, pick_f, if_t, if_f, add_i, sub_i, lss_i, leq_i, gtr_i, geq_i, eql_i, neq_i, min_i, max_i, conv_i, len_sl, len_nil, not_b, cells_agg, new_s, fld_p, nil_p, List.length_cons, List.length_nil, Nat.zero_add, Nat.reduceAdd] at l0 l1 ⊢
  simp only [bnd, guard_tt, guard_ff, guard_tf, guard_ft, pick_t, pick_f, if_t, if_f, add_i, sub_i, lss_i, leq_i, gtr_i, geq_i, eql_i, neq_i, min_i, max_i, conv_i, len_sl, len_nil, not_b, cells_agg, new_s, fld_p, nil_p, l0, hw, hm]
  unfold idOk
  by_cases h1 : x.1 < 64
  · simp only [decide_eq_true h1, bnd, guard_tt, guard_ff, guard_tf, guard_ft, pick_t, pick_f, if_t, if_f, add_i, sub_i, lss_i, leq_i, gtr_i, geq_i, eql_i, neq_i, min_i, max_i, conv_i, len_sl, len_nil, not_b, cells_agg, new_s, fld_p, nil_p, l1, Bool.true_and]
    by_cases h2 : 1 ≤ x.2
    · simp only [decide_eq_true (show x.2 ≥ 1 from h2), decide_eq_true h2, bnd, guard_tt, guard_ff, guard_tf, guard_ft, pick_t, pick_f, if_t, if_f, add_i, sub_i, lss_i, leq_i, gtr_i, geq_i, eql_i, neq_i, min_i, max_i, conv_i, len_sl, len_nil, not_b, cells_agg, new_s, fld_p, nil_p, l1, Bool.true_and]
      exact ⟨_, rfl, e⟩
    · simp only [decide_eq_false (show ¬ x.2 ≥ 1 from h2), decide_eq_false h2, bnd, guard_tt, guard_ff, guard_tf, guard_ft, pick_t, pick_f, if_t, if_f, add_i, sub_i, lss_i, leq_i, gtr_i, geq_i, eql_i, neq_i, min_i, max_i, conv_i, len_sl, len_nil, not_b, cells_agg, new_s, fld_p, nil_p, guard_skip, Bool.false_and]
      exact ⟨_, rfl, e⟩
  · simp only [decide_eq_false h1, bnd, guard_tt, guard_ff, guard_tf, guard_ft, pick_t, pick_f, if_t, if_f, add_i, sub_i, lss_i, leq_i, gtr_i, geq_i, eql_i, neq_i, min_i, max_i, conv_i, len_sl, len_nil, not_b, cells_agg, new_s, fld_p, nil_p, guard_skip, Bool.false_and]
    exact ⟨_, rfl, e⟩
end Go.Proofs.YtmkdpenpfkmfpaaDoor.Sim
namespace Go.Proofs.YtmkdpenpfkmfpaaDoor.Sim
set_option linter.unusedSimpArgs false
set_option linter.unusedVariables false
variable {s s' : Store}

theorem w_u32n {n : Int} (h0 : 0 ≤ n) (h1 : n < 4294967296) : IntKind.u32.wrap n = n := by
  simp [IntKind.wrap, IntKind.bits, IntKind.signed]; omega
def rightB (f : Frm) (chunk most : Int) (dlen : Nat) : Bool := decide (f.size ≤ most) && (decide (countN f.size chunk > 0) && (decide (f.of = countN f.size chunk) && (decide (f.at_ < f.of) && decide ((dlen : Int) = lengthN f.size chunk f.at_))))
theorem right_run {f : Frm} (hw : f.Wf) {d : List Int} (hd : IsV s f.dv .u8 d) (chunk most : Int) (k : Nat) : ∃ s', rn (k + 4) 30 [.agg f.cells, .int .i64 chunk, .int .i64 most] s = some (.bool (rightB f chunk most d.length), s') ∧ Ext s s' := by
  rw [show k + 4 = (k + 3) + 1 from rfl, chunk_Right.eq]
  unfold chunk_Right.f chunk_Right.p4 chunk_Right.p3 chunk_Right.p2
  rw [cells_agg, new_s]
  have e := Ext.push s (.cells f.cells false)
  have hf : (s.push (.cells f.cells false)).get s.next = .cells f.cells false := by rw [get_push, if_pos rfl]
  have hlen : f.cells.length = 16 := rfl
  rw [hlen]
  generalize s.push (.cells f.cells false) = s1 at e hf
  generalize s.next = fp at hf
  have l6 : ∀ {α : Type} (g : AV → Option α), aLoad1 (.ptr fp (0 + 6) 16) s1 g = g (.int .u32 f.at_) := fun g => g_ld hf rfl rfl g
  have l7 : ∀ {α : Type} (g : AV → Option α), aLoad1 (.ptr fp (0 + 7) 16) s1 g = g (.int .u32 f.of) := fun g => g_ld hf rfl rfl g
  have l8 : ∀ {α : Type} (g : AV → Option α), aLoad1 (.ptr fp (0 + 8) 16) s1 g = g (.int .u32 f.size) := fun g => g_ld hf rfl rfl g
  have l15 : ∀ {α : Type} (g : AV → Option α), aLoad1 (.ptr fp (0 + 15) 16) s1 g = g f.dv := fun g => g_ld hf rfl rfl g
  obtain ⟨⟨a0, a1⟩, ⟨o0, o1⟩, ⟨z0, z1⟩⟩ := hw
  have w8 : IntKind.i64.wrap f.size = f.size := w_i64 (by omega) (by omega)
  have w6 : IntKind.i64.wrap f.at_ = f.at_ := w_i64 (by omega) (by omega)
  have hc := countN_bnd f.size chunk
  have wc : IntKind.u32.wrap (countN f.size chunk) = countN f.size chunk := w_u32n hc.1 (by omega)
  have hcr : rn (k + 3) 45 [.int .i64 f.size, .int .i64 chunk] s1 = some (.int .i64 (countN f.size chunk), s1) := count_run _ _ (k + 1) _
  have hlr : rn (k + 3) 46 [.int .i64 f.size, .int .i64 chunk, .int .i64 f.at_] s1 = some (.int .i64 (lengthN f.size chunk f.at_), s1) := length_run _ _ _ ⟨a0, a1⟩ k _
  simp only [bnd, guard_tt, guard_ff, guard_tf, guard_ft, pick_t, pick_f, if_t, if_f, add_i, sub_i, lss_i, leq_i, gtr_i, geq_i, eql_i, neq_i, min_i, max_i, conv_i, len_sl, len_nil, not_b, cells_agg, new_s, fld_p, nil_p, l8, w8, hcr]
  unfold chunk_Right.p1 chunk_Right.p0 rightB
  simp only [bnd, guard_tt, guard_ff, guard_tf, guard_ft, pick_t, pick_f, if_t, if_f, add_i, sub_i, lss_i, leq_i, gtr_i, geq_i, eql_i, neq_i, min_i, max_i, conv_i, len_sl, len_nil, not_b, cells_agg, new_s, fld_p, nil_p]
  by_cases h1 : f.size ≤ most
  rotate_left
  · simp only [decide_eq_false h1, bnd, guard_tt, guard_ff, guard_tf, guard_ft, pick_t, pick_f, if_t, if_f, add_i, sub_i, lss_i, leq_i, gtr_i, geq_i, eql_i, neq_i, min_i, max_i, conv_i, len_sl, len_nil, not_b, cells_agg, new_s, fld_p, nil_p, guard_skip, Bool.false_and]
    exact ⟨_, rfl, e⟩
  simp only [decide_eq_true h1, bnd, guard_tt, guard_ff, guard_tf, guard_ft, pick_t, pick_f, if_t, if_f, add_i, sub_i, lss_i, leq_i, gtr_i, geq_i, eql_i, neq_i, min_i, max_i, conv_i, len_sl, len_nil, not_b, cells_agg, new_s, fld_p, nil_p, Bool.true_and]
  by_cases h2 : countN f.size chunk > 0
  rotate_left
  · simp only [decide_eq_false h2, bnd, guard_tt, guard_ff, guard_tf, guard_ft, pick_t, pick_f, if_t, if_f, add_i, sub_i, lss_i, leq_i, gtr_i, geq_i, eql_i, neq_i, min_i, max_i, conv_i, len_sl, len_nil, not_b, cells_agg, new_s, fld_p, nil_p, guard_skip, Bool.false_and]
    exact ⟨_, rfl, e⟩
  simp only [decide_eq_true h2, bnd, guard_tt, guard_ff, guard_tf, guard_ft, pick_t, pick_f, if_t, if_f, add_i, sub_i, lss_i, leq_i, gtr_i, geq_i, eql_i, neq_i, min_i, max_i, conv_i, len_sl, len_nil, not_b, cells_agg, new_s, fld_p, nil_p, Bool.true_and, l7, wc]
  by_cases h3 : f.of = countN f.size chunk
  rotate_left
  · have : (f.of == countN f.size chunk) = false := by simpa using h3
    simp only [this, decide_eq_false h3, bnd, guard_tt, guard_ff, guard_tf, guard_ft, pick_t, pick_f, if_t, if_f, add_i, sub_i, lss_i, leq_i, gtr_i, geq_i, eql_i, neq_i, min_i, max_i, conv_i, len_sl, len_nil, not_b, cells_agg, new_s, fld_p, nil_p, guard_skip, Bool.false_and]
    exact ⟨_, rfl, e⟩
  have h3' : (f.of == countN f.size chunk) = true := by simpa using h3
  simp only [h3', decide_eq_true h3, bnd, guard_tt, guard_ff, guard_tf, guard_ft, pick_t, pick_f, if_t, if_f, add_i, sub_i, lss_i, leq_i, gtr_i, geq_i, eql_i, neq_i, min_i, max_i, conv_i, len_sl, len_nil, not_b, cells_agg, new_s, fld_p, nil_p, Bool.true_and, l6, l7]
  by_cases h4 : f.at_ < f.of
  rotate_left
  · simp only [decide_eq_false h4, bnd, guard_tt, guard_ff, guard_tf, guard_ft, pick_t, pick_f, if_t, if_f, add_i, sub_i, lss_i, leq_i, gtr_i, geq_i, eql_i, neq_i, min_i, max_i, conv_i, len_sl, len_nil, not_b, cells_agg, new_s, fld_p, nil_p, guard_skip, Bool.false_and]
    exact ⟨_, rfl, e⟩
  simp only [decide_eq_true h4, bnd, guard_tt, guard_ff, guard_tf, guard_ft, pick_t, pick_f, if_t, if_f, add_i, sub_i, lss_i, leq_i, gtr_i, geq_i, eql_i, neq_i, min_i, max_i, conv_i, len_sl, len_nil, not_b, cells_agg, new_s, fld_p, nil_p, Bool.true_and, l15, lenV hd, l6, w6, hlr, aSame_self]
  have h5 : (((d.length : Nat) : Int) == lengthN f.size chunk f.at_) = decide (((d.length : Nat) : Int) = lengthN f.size chunk f.at_) := by
    by_cases q : ((d.length : Nat) : Int) = lengthN f.size chunk f.at_ <;> simp [q]
  rw [h5]
  exact ⟨_, rfl, e⟩
end Go.Proofs.YtmkdpenpfkmfpaaDoor.Sim
namespace Go.Proofs.YtmkdpenpfkmfpaaDoor.Sim
set_option linter.unusedSimpArgs false
set_option linter.unusedVariables false
variable {s s' : Store} {gid : Nat} {g : GS} {pv : AV} {rr : List Nat}

theorem rows_mem {L : List Part} {i : Nat} (hi : i < L.length) {x : Nat} (hx : x ∈ L[i].rows) : x ∈ (L.map Part.rows).flatten := List.mem_flatten.2 ⟨_, List.mem_map.2 ⟨L[i], List.getElem_mem hi, rfl⟩, hx⟩
theorem rows_disj : ∀ {L : List Part}, ((L.map Part.rows).flatten).Nodup → ∀ {i j : Nat} (hi : i < L.length) (hj : j < L.length), i ≠ j → ∀ x ∈ L[i].rows, x ∉ L[j].rows
  | [], _, i, j, hi, _, _ => by simp at hi
  | q :: l, h, i, j, hi, hj, hne => by
    rw [List.map_cons, List.flatten_cons] at h
    have h' := List.nodup_append.1 h
    intro x hx hx2
    match i, j with
    | 0, 0 => exact hne rfl
    | 0, j + 1 =>
      have hj' : j < l.length := by simpa using hj
      exact h'.2.2 x hx x (rows_mem hj' hx2) rfl
    | i + 1, 0 =>
      have hi' : i < l.length := by simpa using hi
      exact h'.2.2 x hx2 x (rows_mem hi' hx) rfl
    | i + 1, j + 1 =>
      have hi' : i < l.length := by simpa using hi
      have hj' : j < l.length := by simpa using hj
      exact rows_disj h'.2.1 hi' hj' (fun e => hne (by rw [e])) x hx hx2

/-- One part is another one, in the same rows. -/
theorem IsG.upd {q' : Part} {j : Nat} (h : IsG s gid g pv rr) (hj : j < g.L.length) (hrows : q'.rows = g.L[j].rows) (hp : PartAt s' q') (hf : FrS [g.L[j].wid, g.L[j].bid] s s') : IsG s' gid { g with L := g.L.set j q' } pv rr := by
  have hsame : (g.L.set j q').map Part.rows = g.L.map Part.rows := by
    apply List.ext_getElem?
    intro i
    rw [List.getElem?_map, List.getElem?_set, List.getElem?_map]
    by_cases e : j = i
    · subst e
      rw [if_pos rfl, if_pos hj, List.getElem?_eq_getElem hj]
      simp [hrows]
    · rw [if_neg e]
  have hpp : q'.p = g.L[j].p := by
    have := congrArg (·[0]?) hrows
    simpa [Part.rows] using this
  have hptr : (g.L.set j q').map Part.ptr = g.L.map Part.ptr := by
    apply List.ext_getElem?
    intro i
    rw [List.getElem?_map, List.getElem?_set, List.getElem?_map]
    by_cases e : j = i
    · subst e
      rw [if_pos rfl, if_pos hj, List.getElem?_eq_getElem hj]
      simp [Part.ptr, hpp]
    · rw [if_neg e]
  have hn := List.nodup_cons.1 h.nodup
  have hn2 := List.nodup_append.1 hn.2
  have hwb : ∀ x ∈ [g.L[j].wid, g.L[j].bid], x ∈ g.L[j].rows := fun x hx => by
    simp only [List.mem_cons, List.not_mem_nil, or_false] at hx
    simp only [Part.rows, List.mem_cons, List.not_mem_nil, or_false]
    rcases hx with rfl | rfl <;> simp
  refine ⟨(hf.get gid h.lt fun e => hn.1 (List.mem_append_right _ (rows_mem hj (hwb _ e)))).trans h.st, ?_, by show (gid :: (rr ++ ((g.L.set j q').map Part.rows).flatten)).Nodup; rw [hsame]; exact h.nodup, ?_, Nat.lt_of_lt_of_le h.lt hf.next, h.cnt⟩
  · have hk := h.ptrs.keep hf.next fun x hx => hf.get x (h.rows_lt x (by simp [hx])) fun e => hn2.2.2 x hx x (rows_mem hj (hwb _ e)) rfl
    rcases hk with ⟨h1, h2, h3⟩ | ⟨r, m, h1, h2, h3, h4⟩
    · rw [h2] at hj; simp at hj
    · refine .inr ⟨r, m, ?_, h2, ?_, h4⟩
      · show pv = .sl r 0 (g.L.set j q').length 1 ((g.L.set j q').length + m)
        rw [List.length_set]; exact h1
      · show s'.get r = .cells ((g.L.set j q').map Part.ptr ++ _) false
        rw [hptr]; exact h3
  · intro q hq
    obtain ⟨i, hi, rfl⟩ := List.getElem_of_mem hq
    have hi' : i < g.L.length := by simpa using hi
    by_cases e : j = i
    · subst e
      simpa using hp
    · have : (g.L.set j q')[i] = g.L[i] := List.getElem_set_ne e hi
      show PartAt s' (g.L.set j q')[i]
      rw [this]
      have hP := h.parts _ (List.getElem_mem hi')
      exact hP.keep hf.next fun x hx => hf.get x (hP.lt x hx) fun e2 => rows_disj hn2.2.1 hi' hj (Ne.symm e) x hx (hwb _ e2)
end Go.Proofs.YtmkdpenpfkmfpaaDoor.Sim
namespace Go.Proofs.YtmkdpenpfkmfpaaDoor.Sim
set_option linter.unusedSimpArgs false
set_option linter.unusedVariables false
variable {s s' : Store} {gid : Nat} {g : GS} {pv : AV} {rr : List Nat}

theorem rows_nd : ∀ {L : List Part}, ((L.map Part.rows).flatten).Nodup → ∀ {i : Nat} (hi : i < L.length), L[i].rows.Nodup
  | [], _, i, hi => by simp at hi
  | q :: l, h, i, hi => by
    rw [List.map_cons, List.flatten_cons] at h
    have h' := List.nodup_append.1 h
    match i with
    | 0 => exact h'.1
    | i + 1 =>
      have hi' : i < l.length := by simpa using hi
      exact rows_nd h'.2.1 hi'

def splice (b d : List Int) (off : Nat) : List Int := b.take off ++ d ++ b.drop (off + d.length)
theorem splice_len {b d : List Int} {off : Nat} (h : off + d.length ≤ b.length) : (splice b d off).length = b.length := by simp [splice]; omega
theorem put_splice {b d : List Int} {off : Nat} (h : off + d.length ≤ b.length) (c : Int → AV) : putAll (b.map c) off (d.map c) = (splice b d off).map c := by
  apply List.ext_getElem?
  intro i
  rw [putAll_at _ _ _ (by simpa using h), List.getElem?_map, List.getElem?_map, List.getElem?_map, splice, three_at, List.length_map, List.length_take, Nat.min_eq_left (by omega)]
  by_cases h1 : i < off
  · rw [if_pos h1, if_pos h1, List.getElem?_take, if_pos h1]
  · rw [if_neg h1, if_neg h1]
    by_cases h2 : i - off < d.length
    · rw [if_pos h2, if_pos h2]
    · rw [if_neg h2, if_neg h2, List.getElem?_drop, show off + d.length + (i - off - d.length) = i by omega]
def Part.fill (q : Part) (at_ : Int) (off : Nat) (d : List Int) : Part := { q with W := (put1 q.n (q.W, 0) at_).1, b := splice q.b d off }

theorem fill_run {fp : Nat} {f : Frm} {d : List Int} {j off : Nat} (h : IsG s gid g pv rr) (hj : j < g.L.length) (hf : s.get fp = .cells f.cells false) (hfl : fp < s.next) (hfo : fp ∉ gid :: (rr ++ (g.L.map Part.rows).flatten)) (hw : f.Wf) (hd : IsV s f.dv .u8 d) (hdo : ∀ i b c d e, f.dv = .sl i b c d e → i ∉ gid :: (rr ++ (g.L.map Part.rows).flatten))
    (hoff : f.at_ * g.chunk = (off : Int)) (hlen : off + d.length ≤ g.L[j].b.length) (k : Nat) :
    ∃ s', gather_Gather_Put.p5 (k + 5) (.ptr gid 0 12) (.ptr fp 0 16) (.int .i64 (j : Int)) g.L[j].ptr s = gather_Gather_Put.p3 (k + 5) (.ptr gid 0 12) (.int .i64 (j : Int)) g.L[j].ptr s' ∧
      IsG s' gid { g with L := g.L.set j (g.L[j].fill f.at_ off d) } pv rr ∧ s'.get fp = .cells f.cells false ∧ FrS [g.L[j].wid, g.L[j].bid] s s' := by
  have hq := h.parts _ (List.getElem_mem hj)
  have hn := List.nodup_cons.1 h.nodup
  have hn2 := List.nodup_append.1 hn.2
  have hnd := rows_nd hn2.2.1 hj
  have hin : ∀ x ∈ g.L[j].rows, x ∈ gid :: (rr ++ (g.L.map Part.rows).flatten) := fun x hx => List.mem_cons_of_mem _ (List.mem_append_right _ (rows_mem hj hx))
  have hgi : ∀ x ∈ g.L[j].rows, x ≠ gid := fun x hx e => hn.1 (by rw [← e]; exact List.mem_append_right _ (rows_mem hj hx))
  have hfi : ∀ x ∈ g.L[j].rows, fp ≠ x := fun x hx e => hfo (by rw [e]; exact hin x hx)
  have hfill : (g.L[j].fill f.at_ off d).rows = g.L[j].rows := rfl
  generalize hqe : g.L[j] = q at hq hnd hin hgi hfi hlen hfill ⊢
  obtain ⟨qp, qs, qw, qb, qid, qn, qW, qbs⟩ := q
  simp only [Part.rows, List.mem_cons, List.not_mem_nil, or_false, forall_eq_or_imp, forall_eq, List.nodup_cons, List.nodup_nil, not_or, and_true, not_false_eq_true] at hnd hgi hfi hin
  unfold gather_Gather_Put.p5
  have ld0 : ∀ {α : Type} (c : AV → Option α), aLoad1 (.ptr qp (0 + 0) 4) s c = c (.ptr qs 0 2) := fun c => g_ld hq.st rfl rfl c
  have lf : ∀ {t : Store}, t.get fp = .cells f.cells false → ∀ {α : Type} (c : AV → Option α), aLoad1 (.ptr fp (0 + 6) 16) t c = c (.int .u32 f.at_) := fun {t} ht {α} c => g_ld ht rfl rfl c
  have hw6 : IntKind.i64.wrap f.at_ = f.at_ := w_i64 (by have := hw.at0; omega) (by have := hw.at0; omega)
  have hb1 : ∀ {α : Type} (c : List AV → Option α), aBuild [(0, 1, .int .i64 f.at_)] [AV.int .i64 0] c = c [.int .i64 f.at_] := fun c => rfl
  have e1 := Ext.push s (.cells [.int .i64 f.at_] false)
  have hv1 : IsV (s.push (.cells [.int .i64 f.at_] false)) (.sl s.next 0 1 1 1) .i64 [f.at_] := isV_push s .i64 [f.at_] false
  have ld1 : ∀ {α : Type} (c : AV → Option α), aLoad1 (.ptr qp (0 + 0) 4) (s.push (.cells [.int .i64 f.at_] false)) c = c (.ptr qs 0 2) := fun c => g_ld ((e1.get qp hq.p_lt).trans hq.st) rfl rfl c
  have hwl : qw < s.next := hq.set.wid_lt
  obtain ⟨s2, b1, b2, b3, b4⟩ := bits_put (hq.set.ext e1) hv1 (by simp) (fun i b c d f e => by injection e with e1; show i ≠ qw; omega) (k + 2) (by simp)
  have b1' : rn (k + 5) 35 [.ptr qs 0 2, .sl s.next 0 1 1 1] (s.push (.cells [.int .i64 f.at_] false)) = some (.int .i64 ([f.at_].foldl (put1 qn) (qW, 0)).2, s2) := b1
  simp only [Part.ptr, bnd, guard_tt, guard_ff, guard_tf, guard_ft, pick_t, pick_f, if_t, if_f, add_i, sub_i, lss_i, leq_i, gtr_i, geq_i, eql_i, neq_i, min_i, max_i, conv_i, len_sl, len_nil, not_b, cells_agg, new_s, fld_p, nil_p, ld0, lf hf, hw6, hb1, ld1, aSame_self, b1']
  unfold gather_Gather_Put.p4
  have k2 : ∀ x, x < s.next → x ≠ qw → s2.get x = s.get x := fun x hx hne => (b3.get x (Nat.lt_of_lt_of_le hx e1.next) hne).trans (e1.get x hx)
  have f2 : s2.get fp = .cells f.cells false := (k2 fp hfl hfi.2.2.1).trans hf
  have p2 : s2.get qp = .cells [.ptr qs 0 2, .int .u8 qid.1, .int .u64 qid.2, .sl qb 0 qbs.length 1 qbs.length] false := (k2 qp hq.p_lt hnd.1.2.1).trans hq.st
  have g2 : s2.get gid = .cells (gcells g pv) false := (k2 gid h.lt (Ne.symm hgi.2.2.1)).trans h.st
  have r2 : s2.get qb = .cells (qbs.map (.int .u8)) false := (k2 qb hq.b_lt (Ne.symm hnd.2.2)).trans hq.row
  have d2 : IsV s2 f.dv .u8 d := ((hd.ext e1).fr1 b3 fun i b c d e q => fun e2 => hdo i b c d e q (by rw [e2]; exact List.mem_cons.2 hin.2.2.1))
  have ldb : ∀ {α : Type} (c : AV → Option α), aLoad1 (.ptr qp (0 + 3) 4) s2 c = c (.sl qb 0 qbs.length 1 qbs.length) := fun c => g_ld p2 rfl rfl c
  have ldc : ∀ {α : Type} (c : AV → Option α), aLoad1 (.ptr gid (0 + 0) 12) s2 c = c (.int .i64 g.chunk) := fun c => g_ld g2 (gcells_len g pv h.cnt) rfl c
  have ldd : ∀ {α : Type} (c : AV → Option α), aLoad1 (.ptr fp (0 + 15) 16) s2 c = c f.dv := fun c => g_ld f2 rfl rfl c
  have hsz : qbs.length ≤ 1048576 := hq.size
  have hlen' : off + d.length ≤ qbs.length := hlen
  have hmul : ∀ {α : Type} (c : AV → Option α), aBin .mul (.int .i64 f.at_) (.int .i64 g.chunk) c = c (.int .i64 (off : Int)) := fun c => by
    simp only [aBin, intBin, if_true, hoff, w_i64 (show -9223372036854775808 ≤ (off : Int) by omega) (by omega)]
  have hcopy : ∀ {α : Type} (c : AV → Store → Option α), aCopy 1 (.sl qb off (qbs.length - off) 1 qbs.length) f.dv s2 c = c (.int .i64 (min d.length (qbs.length - off) : Nat)) (s2.set qb (.cells ((splice qbs d off).map (.int .u8)) false)) := fun c => by
    unfold aCopy
    rw [cellsOfV d2]
    simp only [aOwn, r2, if_true, List.length_map]
    rw [if_pos (by omega), Nat.min_eq_left (by omega), Nat.mul_one, List.take_of_length_le (by simp), put_splice hlen']
  simp only [bnd, guard_tt, guard_ff, guard_tf, guard_ft, pick_t, pick_f, if_t, if_f, add_i, sub_i, lss_i, leq_i, gtr_i, geq_i, eql_i, neq_i, min_i, max_i, conv_i, len_sl, len_nil, not_b, cells_agg, new_s, fld_p, nil_p, ldb, lf f2, hw6, ldc, hmul, cut_lo (show off ≤ qbs.length by omega), ldd, hcopy]
  have hfr : FrS [qw, qb] s (s2.set qb (.cells ((splice qbs d off).map (.int .u8)) false)) := ⟨Nat.le_trans e1.next b3.next, fun l hl hne => by
    simp only [List.mem_cons, List.not_mem_nil, or_false, not_or] at hne
    rw [get_set, if_neg hne.2]; exact k2 l hl hne.1⟩
  refine ⟨_, rfl, ?_, by rw [get_set, if_neg hfi.2.2.2]; exact f2, hfr⟩
  refine h.upd hj (by rw [hqe]; rfl) ?_ (by rw [hqe]; exact hfr)
  have n2 : s.next ≤ s2.next := Nat.le_trans e1.next b3.next
  refine ⟨?_, ?_, by show (s2.set qb _).get qb = _; rw [get_set, if_pos rfl]; rfl, Nat.lt_of_lt_of_le hq.p_lt n2, Nat.lt_of_lt_of_le hq.b_lt n2, by show (splice qbs d off).length ≤ _; rw [splice_len hlen']; exact hsz⟩
  · show (s2.set qb _).get qp = .cells [.ptr qs 0 2, .int .u8 qid.1, .int .u64 qid.2, .sl qb 0 (splice qbs d off).length 1 (splice qbs d off).length] false
    rw [get_set, if_neg hnd.1.2.2, splice_len hlen']; exact p2
  · show IsSet (s2.set qb _) qs qw (put1 qn (qW, 0) f.at_).1 qn
    exact b2.keep (by rw [get_set, if_neg hnd.2.1.2]) (by rw [get_set, if_neg hnd.2.2]) (Nat.le_refl _)
end Go.Proofs.YtmkdpenpfkmfpaaDoor.Sim
namespace Go.Proofs.YtmkdpenpfkmfpaaDoor.Sim
set_option linter.unusedSimpArgs false
set_option linter.unusedVariables false
variable {s s' : Store} {gid : Nat} {g : GS} {pv : AV} {rr : List Nat}

theorem finish_kept {j : Nat} (h : IsG s gid g pv rr) (hj : j < g.L.length) (hfull : ((cntW g.L[j].W : Nat) : Int) ≠ (g.L[j].n : Int)) (k : Nat) (hk : g.L[j].W.length ≤ k) :
    ∃ s', gather_Gather_Put.p3 (k + 3) (.ptr gid 0 12) (.int .i64 (j : Int)) g.L[j].ptr s = some (.tuple [.nilsl, .int .u8 4], s') ∧ IsG s' gid { g with counts := countC g.counts 4 } pv rr ∧ Fr1 gid s s' := by
  have hq := h.parts _ (List.getElem_mem hj)
  unfold gather_Gather_Put.p3
  have ld0 : ∀ {α : Type} (c : AV → Option α), aLoad1 (.ptr g.L[j].p (0 + 0) 4) s c = c (.ptr g.L[j].sid 0 2) := fun c => g_ld hq.st rfl rfl c
  have hf := bits_full hq.set k hk
  have hb : (((cntW g.L[j].W : Nat) : Int) == (g.L[j].n : Int)) = false := by simpa using hfull
  obtain ⟨s1, m1, m2, m3⟩ := makes_run h (w := 4) (by decide) (k + 2)
  have m1' : rn (k + 3) 31 [.ptr gid 0 12, .int .u8 4] s = some (.int .u8 4, s1) := m1
  simp only [Part.ptr, bnd, guard_tt, guard_ff, guard_tf, guard_ft, pick_t, pick_f, if_t, if_f, add_i, sub_i, lss_i, leq_i, gtr_i, geq_i, eql_i, neq_i, min_i, max_i, conv_i, len_sl, len_nil, not_b, cells_agg, new_s, fld_p, nil_p, ld0, hf, hb, Bool.not_false, m1']
  exact ⟨s1, rfl, m2, m3⟩

theorem finish_whole {j : Nat} (h : IsG s gid g pv rr) (hj : j < g.L.length) (hL : g.L.length ≤ 1000000) (hfull : ((cntW g.L[j].W : Nat) : Int) = (g.L[j].n : Int)) (k : Nat) (hk : g.L[j].W.length ≤ k) :
    ∃ s' pv', gather_Gather_Put.p3 (k + 3) (.ptr gid 0 12) (.int .i64 (j : Int)) g.L[j].ptr s = some (.tuple [.sl g.L[j].bid 0 g.L[j].b.length 1 g.L[j].b.length, .int .u8 5], s') ∧ IsG s' gid { g with L := g.L.eraseIdx j, counts := countC g.counts 5 } pv' rr ∧
      s'.get g.L[j].bid = .cells (g.L[j].b.map (.int .u8)) false ∧ FrS (gid :: rr) s s' := by
  have hq := h.parts _ (List.getElem_mem hj)
  unfold gather_Gather_Put.p3
  have ld0 : ∀ {α : Type} (c : AV → Option α), aLoad1 (.ptr g.L[j].p (0 + 0) 4) s c = c (.ptr g.L[j].sid 0 2) := fun c => g_ld hq.st rfl rfl c
  have hf := bits_full hq.set k hk
  have hb : (((cntW g.L[j].W : Nat) : Int) == (g.L[j].n : Int)) = true := by simpa using hfull
  simp only [Part.ptr, bnd, guard_tt, guard_ff, guard_tf, guard_ft, pick_t, pick_f, if_t, if_f, add_i, sub_i, lss_i, leq_i, gtr_i, geq_i, eql_i, neq_i, min_i, max_i, conv_i, len_sl, len_nil, not_b, cells_agg, new_s, fld_p, nil_p, ld0, hf, hb, Bool.not_true]
  unfold gather_Gather_Put.p2
  have ldp : ∀ {α : Type} (f1 : AV → Option α), aLoad1 (.ptr gid (0 + 3) 12) s f1 = f1 pv := fun f1 => g_ld h.st (gcells_len _ pv h.cnt) rfl f1
  have hw1 : IntKind.i64.wrap ((j : Int) + 1) = ((j + 1 : Nat) : Int) := by rw [w_i64 (by omega) (by omega)]; omega
  obtain ⟨pv1, s1, r, d1, d2, d3, d4, d5⟩ := del_run h.ptrs hj hL (k + 2)
  have d1' : rn (k + 3) 37 [pv, .int .i64 (j : Int), .int .i64 ((j + 1 : Nat) : Int)] s = some (pv1, s1) := d1
  have hrg : gid ≠ r := fun e => (List.nodup_cons.1 h.nodup).1 (by rw [d3, e]; simp)
  have g1 : s1.get gid = .cells (gcells g pv) false := (d4.get gid h.lt hrg).trans h.st
  have hst := fun {α : Type} (f1 : Store → Option α) => g_st (j := 0 + 3) (v := pv1) g1 (gcells_len _ pv h.cnt) (by decide) d5 f1
  have hre := h.relist (L' := g.L.eraseIdx j) (List.eraseIdx_sublist g.L j) d2 d4 d3
  have hset : (gcells g pv).set (0 + 3) pv1 = gcells { g with L := g.L.eraseIdx j } pv1 := rfl
  obtain ⟨s2, m1, m2, m3⟩ := makes_run hre (w := 5) (by decide) (k + 2)
  have m1' : rn (k + 3) 31 [.ptr gid 0 12, .int .u8 5] (s1.set gid (.cells (gcells { g with L := g.L.eraseIdx j } pv1) false)) = some (.int .u8 5, s2) := m1
  have hn := List.nodup_cons.1 h.nodup
  have hn2 := List.nodup_append.1 hn.2
  have hx : ∀ x ∈ g.L[j].rows, x ≠ gid ∧ x ≠ r := fun x hx => ⟨fun e => hn.1 (by rw [← e]; exact List.mem_append_right _ (rows_mem hj hx)), fun e => hn2.2.2 r (by rw [d3]; simp) x (rows_mem hj hx) e.symm⟩
  have k1 : ∀ x ∈ g.L[j].rows, (s1.set gid (.cells (gcells { g with L := g.L.eraseIdx j } pv1) false)).get x = s.get x := fun x hm => by
    rw [get_set, if_neg (hx x hm).1]; exact d4.get x (hq.lt x hm) (hx x hm).2
  have k2 : ∀ x ∈ g.L[j].rows, s2.get x = s.get x := fun x hm => (m3.get x (Nat.lt_of_lt_of_le (hq.lt x hm) d4.next) (hx x hm).1).trans (k1 x hm)
  have l1 : ∀ {α : Type} (c : AV → Option α), aLoad1 (.ptr g.L[j].p (0 + 3) 4) (s1.set gid (.cells (gcells { g with L := g.L.eraseIdx j } pv1) false)) c = c (.sl g.L[j].bid 0 g.L[j].b.length 1 g.L[j].b.length) := fun c => g_ld ((k1 _ (by simp [Part.rows])).trans hq.st) rfl rfl c
  have l2 : ∀ {α : Type} (c : AV → Option α), aLoad1 (.ptr g.L[j].p (0 + 3) 4) s2 c = c (.sl g.L[j].bid 0 g.L[j].b.length 1 g.L[j].b.length) := fun c => g_ld ((k2 _ (by simp [Part.rows])).trans hq.st) rfl rfl c
  simp only [bnd, guard_tt, guard_ff, guard_tf, guard_ft, pick_t, pick_f, if_t, if_f, add_i, sub_i, lss_i, leq_i, gtr_i, geq_i, eql_i, neq_i, min_i, max_i, conv_i, len_sl, len_nil, not_b, cells_agg, new_s, fld_p, nil_p, ldp, hw1, d1', hst, hset]
  unfold gather_Gather_Put.p1 gather_Gather_Put.p0
  simp only [bnd, guard_tt, guard_ff, guard_tf, guard_ft, pick_t, pick_f, if_t, if_f, add_i, sub_i, lss_i, leq_i, gtr_i, geq_i, eql_i, neq_i, min_i, max_i, conv_i, len_sl, len_nil, not_b, cells_agg, new_s, fld_p, nil_p, l1, m1', l2, aSame_self]
  refine ⟨s2, pv1, rfl, m2, (k2 _ (by simp [Part.rows])).trans hq.row, ⟨Nat.le_trans d4.next m3.next, fun x hx1 hne => ?_⟩⟩
  have x1 : x ≠ gid := fun e => hne (by simp [e])
  have x2 : x ≠ r := fun e => hne (by rw [d3, e]; simp)
  rw [m3.get x (Nat.lt_of_lt_of_le hx1 d4.next) x1, get_set, if_neg x1]
  exact d4.get x hx1 x2
end Go.Proofs.YtmkdpenpfkmfpaaDoor.Sim
namespace Go.Proofs.YtmkdpenpfkmfpaaDoor.Sim
set_option linter.unusedSimpArgs false
set_option linter.unusedVariables false
variable {s s' : Store} {gid : Nat} {g : GS} {pv : AV} {rr : List Nat}

theorem findI_spec (x : Int × Int) : ∀ (L : List Part) (i : Nat), (findI x L i = -1 ∧ ∀ q ∈ L, q.id ≠ x) ∨ ∃ j, findI x L i = ((i + j : Nat) : Int) ∧ ∃ hj : j < L.length, L[j].id = x ∧ ∀ m (hm : m < j), (L[m]'(by omega)).id ≠ x
  | [], i => .inl ⟨rfl, fun q hq => by cases hq⟩
  | q :: l, i => by
    by_cases h : q.id = x
    · exact .inr ⟨0, by simp [findI, h], by simp, h, fun m hm => absurd hm (Nat.not_lt_zero m)⟩
    · rcases findI_spec x l (i + 1) with ⟨h1, h2⟩ | ⟨j, h1, hj, h2, h3⟩
      · refine .inl ⟨by simp only [findI, if_neg h]; exact h1, fun p hp => ?_⟩
        rcases List.mem_cons.1 hp with rfl | hp
        · exact h
        · exact h2 p hp
      · refine .inr ⟨j + 1, by simp only [findI, if_neg h, h1]; congr 1; omega, by simp; exact hj, by simpa using h2, fun m hm => ?_⟩
        cases m with
        | zero => simpa using h
        | succ m => simpa using h3 m (by omega)

/-- A frame that can't be one, or isn't right. -/
theorem put_bad {fp : Nat} {f : Frm} (h : IsG s gid g pv rr) (k : Nat) : ∃ s', (rn (k + 1) 31 [.ptr gid 0 12, .int .u8 1] s).bind (fun q1 => some (AV.tuple [AV.nilsl, q1.1], q1.2)) = some (.tuple [.nilsl, .int .u8 1], s') ∧ IsG s' gid { g with counts := countC g.counts 1 } pv rr ∧ Fr1 gid s s' := by
  obtain ⟨s1, m1, m2, m3⟩ := makes_run h (w := 1) (by decide) k
  have m1' : rn (k + 1) 31 [.ptr gid 0 12, .int .u8 1] s = some (.int .u8 1, s1) := m1
  rw [m1']
  exact ⟨s1, rfl, m2, m3⟩
end Go.Proofs.YtmkdpenpfkmfpaaDoor.Sim
namespace Go.Proofs.YtmkdpenpfkmfpaaDoor.Sim
set_option linter.unusedSimpArgs false
set_option linter.unusedVariables false

structure AP where
  id : Int × Int
  n : Nat
  W : List Nat
  b : List Int
structure AG where
  chunk : Int
  most : Int
  room : Int
  L : List AP
  wanted : Int × Int
  counts : List Int
def Part.abs (q : Part) : AP := ⟨q.id, q.n, q.W, q.b⟩
def GS.abs (g : GS) : AG := ⟨g.chunk, g.most, g.room, g.L.map Part.abs, g.wanted, g.counts⟩
def usedA (L : List AP) : Nat := (L.map fun q => q.b.length).sum
theorem usedA_abs (L : List Part) : usedA (L.map Part.abs) = usedL L := by
  unfold usedA usedL
  rw [List.map_map]
  rfl
def cutA (lim : Int) : List AP → List Int → List AP × List Int
  | [], c => ([], c)
  | q :: l, c => if ((usedA (q :: l) : Nat) : Int) > lim then cutA lim l (countC c 3) else (q :: l, c)
theorem cutA_abs (lim : Int) : ∀ (L : List Part) (c : List Int), cutA lim (L.map Part.abs) c = ((cutG lim L c).1.map Part.abs, (cutG lim L c).2)
  | [], c => rfl
  | q :: l, c => by
    have hu : usedA (q.abs :: l.map Part.abs) = usedL (q :: l) := usedA_abs (q :: l)
    simp only [List.map_cons, cutA, cutG, hu]
    split
    · exact cutA_abs lim l _
    · rfl
/-- The place of the first part of an id; how many there are, if there is none. -/
def findA (x : Int × Int) : List AP → Nat
  | [] => 0
  | q :: l => if q.id = x then 0 else findA x l + 1
def AP.fill (q : AP) (at_ : Int) (off : Nat) (d : List Int) : AP := { q with W := (put1 q.n (q.W, 0) at_).1, b := splice q.b d off }
def AP.new (f : Frm) : AP := ⟨f.id, (max 0 (min f.of 1048576)).toNat, newW f.of, List.replicate f.size.toNat 0⟩
/-- A chunk is laid into the part at a place. -/
def layA (g : AG) (j : Nat) (f : Frm) (d : List Int) : AG × List Int × Nat :=
  match g.L[j]? with
  | none => (g, [], 0)
  | some q0 =>
    let q := q0.fill f.at_ (f.at_ * g.chunk).toNat d
    if cntW q.W = q.n then ({ g with L := g.L.eraseIdx j, counts := countC g.counts 5 }, q.b, 5) else ({ g with L := g.L.set j q, counts := countC g.counts 4 }, [], 4)
def putA (g : AG) (f : Frm) (d : List Int) : AG × List Int × Nat :=
  if (idOk f.id && rightB f g.chunk g.most d.length) = false then ({ g with counts := countC g.counts 1 }, [], 1)
  else match g.L[findA f.id g.L]? with
    | some q =>
      if (q.b.length : Int) ≠ f.size then ({ g with counts := countC g.counts 1 }, [], 1)
      else if (decide (f.at_ < q.n) && bitW q.W f.at_.toNat) = true then ({ g with counts := countC g.counts 2 }, [], 2)
      else layA g (findA f.id g.L) f d
    | none =>
      if ((usedA g.L : Nat) : Int) > g.room - f.size ∧ g.wanted ≠ f.id then ({ g with counts := countC g.counts 3 }, [], 3)
      else layA { g with L := (cutA (g.room - f.size) g.L g.counts).1 ++ [AP.new f], counts := (cutA (g.room - f.size) g.L g.counts).2 } (cutA (g.room - f.size) g.L g.counts).1.length f d
end Go.Proofs.YtmkdpenpfkmfpaaDoor.Sim
namespace Go.Proofs.YtmkdpenpfkmfpaaDoor.Sim
set_option linter.unusedSimpArgs false
set_option linter.unusedVariables false
variable {s s' : Store} {gid : Nat} {g : GS} {pv : AV} {rr : List Nat}

/-- The bytes that come back: none, or a row that is nobody's any more. -/
def OutB (s : Store) (v : AV) (b : List Int) (made : Nat) : Prop := (made ≠ 5 → v = .nilsl ∧ b = []) ∧ (made = 5 → ∃ i, v = .sl i 0 b.length 1 b.length ∧ i < s.next ∧ s.get i = .cells (b.map (.int .u8)) false)
theorem lay_run {fp : Nat} {f : Frm} {d : List Int} {j off : Nat} (h : IsG s gid g pv rr) (hj : j < g.L.length) (hL : g.L.length ≤ 1000000) (hf : s.get fp = .cells f.cells false) (hfl : fp < s.next) (hfo : fp ∉ gid :: (rr ++ (g.L.map Part.rows).flatten)) (hw : f.Wf) (hd : IsV s f.dv .u8 d) (hdo : ∀ i b c d e, f.dv = .sl i b c d e → i ∉ gid :: (rr ++ (g.L.map Part.rows).flatten))
    (hoff : f.at_ * g.chunk = (off : Int)) (hlen : off + d.length ≤ g.L[j].b.length) (k : Nat) (hk : 16385 ≤ k) :
    ∃ s' v g' pv' made b, gather_Gather_Put.p6 (k + 5) (.ptr gid 0 12) (.ptr fp 0 16) (.int .i64 (j : Int)) s = some (.tuple [v, .int .u8 (made : Nat)], s') ∧ IsG s' gid g' pv' rr ∧ (g'.abs, b, made) = layA g.abs j f d ∧ OutB s' v b made ∧ FrS (gid :: (rr ++ (g.L.map Part.rows).flatten)) s s' ∧ (∀ x ∈ (g'.L.map Part.rows).flatten, x ∈ (g.L.map Part.rows).flatten) ∧ ∀ i b c d e, v = .sl i b c d e → i ∈ (g.L.map Part.rows).flatten := by
  unfold gather_Gather_Put.p6
  have ldp : ∀ {α : Type} (f1 : AV → Option α), aLoad1 (.ptr gid (0 + 3) 12) s f1 = f1 pv := fun f1 => g_ld h.st (gcells_len _ pv h.cnt) rfl f1
  obtain ⟨r, ep, a1, a2⟩ := h.ptrs.at hj
  obtain ⟨s1, b1, b2, b3, b4⟩ := fill_run h hj hf hfl hfo hw hd hdo hoff hlen k
  simp only [bnd, guard_tt, guard_ff, guard_tf, guard_ft, pick_t, pick_f, if_t, if_f, add_i, sub_i, lss_i, leq_i, gtr_i, geq_i, eql_i, neq_i, min_i, max_i, conv_i, len_sl, len_nil, not_b, cells_agg, new_s, fld_p, nil_p, ldp, a1, a2, b1]
  have hjL : j < (g.L.set j (g.L[j].fill f.at_ off d)).length := by rw [List.length_set]; exact hj
  have hgj : (g.L.set j (g.L[j].fill f.at_ off d))[j] = g.L[j].fill f.at_ off d := by simp
  have hrows : ((g.L.set j (g.L[j].fill f.at_ off d)).map Part.rows).flatten = (g.L.map Part.rows).flatten := by
    congr 1
    apply List.ext_getElem?
    intro i
    rw [List.getElem?_map, List.getElem?_set, List.getElem?_map]
    by_cases e : j = i
    · subst e
      rw [if_pos rfl, if_pos hj, List.getElem?_eq_getElem hj]
      rfl
    · rw [if_neg e]
  have hfr1 : FrS (gid :: (rr ++ (g.L.map Part.rows).flatten)) s s1 := ⟨b4.next, fun l hl hn => b4.get l hl fun e => hn (List.mem_cons_of_mem _ (List.mem_append_right _ (rows_mem hj (by
    simp only [List.mem_cons, List.not_mem_nil, or_false] at e
    simp only [Part.rows, List.mem_cons, List.not_mem_nil, or_false]
    rcases e with rfl | rfl <;> simp))))⟩
  have hWl : (g.L[j].fill f.at_ off d).W.length ≤ k + 2 := by
    have hs := (b2.parts _ (List.getElem_mem hjL)).set
    have h1 := hs.len
    have h2 := hs.top
    rw [hgj] at h1 h2
    omega
  have hlay : layA g.abs j f d = if cntW (g.L[j].fill f.at_ off d).W = (g.L[j].fill f.at_ off d).n then ({ g.abs with L := g.abs.L.eraseIdx j, counts := countC g.counts 5 }, (g.L[j].fill f.at_ off d).b, 5) else ({ g.abs with L := g.abs.L.set j (g.L[j].fill f.at_ off d).abs, counts := countC g.counts 4 }, [], 4) := by
    have hget : g.abs.L[j]? = some g.L[j].abs := by simp [GS.abs, hj]
    have ho : (f.at_ * g.abs.chunk).toNat = off := by show (f.at_ * g.chunk).toNat = off; rw [hoff]; rfl
    unfold layA
    rw [hget, ho]
    rfl
  have hp3 : ∀ (st : Store), gather_Gather_Put.p3 (k + 5) (.ptr gid 0 12) (.int .i64 (j : Int)) g.L[j].ptr st = gather_Gather_Put.p3 (k + 5) (.ptr gid 0 12) (.int .i64 (j : Int)) (g.L.set j (g.L[j].fill f.at_ off d))[j].ptr st := fun st => by rw [hgj]; rfl
  rw [hp3]
  by_cases hfull : cntW (g.L[j].fill f.at_ off d).W = (g.L[j].fill f.at_ off d).n
  · obtain ⟨s2, pv2, c1, c2, c3, c4⟩ := finish_whole (k := k + 2) b2 hjL (by show (g.L.set j _).length ≤ _; rw [List.length_set]; exact hL) (by show ((cntW (g.L.set j _)[j].W : Nat) : Int) = _; rw [hgj, hfull]) (by show (g.L.set j _)[j].W.length ≤ _; rw [hgj]; exact hWl)
    have c1' := c1
    simp only [hgj] at c1' c3
    refine ⟨s2, _, _, pv2, 5, (g.L[j].fill f.at_ off d).b, by rw [hgj]; exact c1', c2, ?_, ⟨fun q => absurd rfl q, fun _ => ⟨_, rfl, ?_, c3⟩⟩, hfr1.trans c4 fun l hl => .inl ?_, fun x hx => hrows ▸ (rows_sub (List.eraseIdx_sublist _ j)).subset hx, fun i b c d e q => by
      injection q with q1
      rw [← q1]
      exact rows_mem hj (by simp [Part.rows, Part.fill])⟩
    · rw [hlay, if_pos hfull]
      simp [GS.abs, List.eraseIdx_set_eq]
      apply List.ext_getElem?
      intro i
      simp only [List.getElem?_eraseIdx, List.getElem?_map]
      split <;> rfl
    · have := (b2.parts _ (List.getElem_mem hjL)).b_lt
      have h3 : (g.L.set j (g.L[j].fill f.at_ off d))[j].bid = (g.L[j].fill f.at_ off d).bid := by rw [hgj]
      exact Nat.lt_of_lt_of_le (h3 ▸ this) c4.next
    · rcases List.mem_cons.1 hl with rfl | hl
      · simp
      · exact List.mem_cons_of_mem _ (List.mem_append_left _ hl)
  · obtain ⟨s2, c1, c2, c3⟩ := finish_kept (k := k + 2) b2 hjL (by show ((cntW (g.L.set j _)[j].W : Nat) : Int) ≠ _; rw [hgj]; exact fun e => hfull (by exact_mod_cast e)) (by show (g.L.set j _)[j].W.length ≤ _; rw [hgj]; exact hWl)
    refine ⟨s2, _, _, pv, 4, [], c1, c2, ?_, ⟨fun _ => ⟨rfl, rfl⟩, fun q => by cases q⟩, hfr1.trans (c3.frS (S := [gid]) (by simp)) fun l hl => .inl ?_, fun x hx => hrows ▸ hx, fun i b c d e q => by cases q⟩
    · rw [hlay, if_neg hfull]
      simp [GS.abs, List.map_set]
    · rw [List.mem_singleton.1 hl]; simp
end Go.Proofs.YtmkdpenpfkmfpaaDoor.Sim
namespace Go.Proofs.YtmkdpenpfkmfpaaDoor.Sim
set_option linter.unusedSimpArgs false
set_option linter.unusedVariables false

theorem right_of {f : Frm} {chunk most : Int} {n : Nat} (h : rightB f chunk most n = true) (hw : f.Wf) : f.size ≤ most ∧ 0 < countN f.size chunk ∧ f.of = countN f.size chunk ∧ f.at_ < f.of ∧ (n : Int) = lengthN f.size chunk f.at_ ∧ 1 ≤ chunk ∧ chunk ≤ 65536 ∧ f.size ≤ 1048576 ∧ f.at_ * chunk + n ≤ f.size ∧ 0 ≤ f.at_ * chunk := by
  unfold rightB at h
  simp only [Bool.and_eq_true, decide_eq_true_eq] at h
  obtain ⟨h1, h2, h3, h4, h5⟩ := h
  have hc : 0 ≤ f.size ∧ f.size ≤ 1048576 ∧ 1 ≤ chunk ∧ chunk ≤ 65536 := by
    unfold countN at h2
    split at h2
    · assumption
    · omega
  have h0 := hw.at0
  have h6 : 0 ≤ f.at_ * chunk := Int.mul_nonneg h0.1 (by omega)
  refine ⟨h1, h2, h3, h4, h5, hc.2.2.1, hc.2.2.2, hc.2.1, ?_, h6⟩
  rw [h5, lengthN, if_pos ⟨h0.1, by omega⟩]
  omega
end Go.Proofs.YtmkdpenpfkmfpaaDoor.Sim
namespace Go.Proofs.YtmkdpenpfkmfpaaDoor.Sim
set_option linter.unusedSimpArgs false
set_option linter.unusedVariables false
variable {s s' : Store} {gid : Nat} {g : GS} {pv : AV} {rr : List Nat}

/-- A frame in a row of its own: is it one that may be, and right? -/
theorem put_gate {fp : Nat} {f : Frm} {d : List Int} (h : IsG s gid g pv rr) (hf : s.get fp = .cells f.cells false) (hfl : fp < s.next) (hw : f.Wf) (hid : 0 ≤ f.id.1 ∧ f.id.1 < 256) (hd : IsV s f.dv .u8 d) (k : Nat) :
    ∃ s', gather_Gather_Put.p14 (k + 4) (.ptr gid 0 12) (.ptr fp 0 16) s = gather_Gather_Put.p13 (k + 4) (.ptr gid 0 12) (.ptr fp 0 16) (.bool (!(idOk f.id && rightB f g.chunk g.most d.length))) s' ∧ Ext s s' := by
  unfold gather_Gather_Put.p14
  have ldi : ∀ {α : Type} (c : AV → Option α), aLoadN 2 (.ptr fp (0 + 3) 16) s c = c (.agg [.int .u8 f.id.1, .int .u64 f.id.2]) := fun {α} c => load_n hf rfl (by show 3 + 2 ≤ 16; decide)
  obtain ⟨s1, a1, a2⟩ := idmay_run f.id hid (k + 3) s
  have a1' : rn (k + 4) 29 [.agg [.int .u8 f.id.1, .int .u64 f.id.2], .int .i64 64] s = some (.bool (idOk f.id), s1) := a1
  simp only [bnd, guard_tt, guard_ff, guard_tf, guard_ft, pick_t, pick_f, if_t, if_f, add_i, sub_i, lss_i, leq_i, gtr_i, geq_i, eql_i, neq_i, min_i, max_i, conv_i, len_sl, len_nil, not_b, cells_agg, new_s, fld_p, nil_p, ldi, a1']
  cases hok : idOk f.id
  · simp only [Bool.not_false, bnd, guard_tt, guard_ff, guard_tf, guard_ft, pick_t, pick_f, if_t, if_f, add_i, sub_i, lss_i, leq_i, gtr_i, geq_i, eql_i, neq_i, min_i, max_i, conv_i, len_sl, len_nil, not_b, cells_agg, new_s, fld_p, nil_p, guard_skip, Bool.false_and]
    exact ⟨s1, rfl, a2⟩
  · have f1 : s1.get fp = .cells f.cells false := (a2.get fp hfl).trans hf
    have h1 := h.ext a2
    have ldf : ∀ {α : Type} (c : AV → Option α), aLoadN 16 (.ptr fp 0 16) s1 c = c (.agg f.cells) := fun {α} c => load_n f1 rfl (by show 0 + 16 ≤ 16; decide)
    have ld0 : ∀ {α : Type} (c : AV → Option α), aLoad1 (.ptr gid (0 + 0) 12) s1 c = c (.int .i64 g.chunk) := fun c => g_ld h1.st (gcells_len g pv h.cnt) rfl c
    have ld1 : ∀ {α : Type} (c : AV → Option α), aLoad1 (.ptr gid (0 + 1) 12) s1 c = c (.int .i64 g.most) := fun c => g_ld h1.st (gcells_len g pv h.cnt) rfl c
    obtain ⟨s2, b1, b2⟩ := right_run hw (hd.ext a2) g.chunk g.most k
    simp only [Bool.not_true, bnd, guard_tt, guard_ff, guard_tf, guard_ft, pick_t, pick_f, if_t, if_f, add_i, sub_i, lss_i, leq_i, gtr_i, geq_i, eql_i, neq_i, min_i, max_i, conv_i, len_sl, len_nil, not_b, cells_agg, new_s, fld_p, nil_p, ldf, ld0, ld1, b1, Bool.true_and]
    exact ⟨s2, rfl, a2.trans b2⟩
end Go.Proofs.YtmkdpenpfkmfpaaDoor.Sim
namespace Go.Proofs.YtmkdpenpfkmfpaaDoor.Sim
set_option linter.unusedSimpArgs false
set_option linter.unusedVariables false
variable {s s' : Store} {gid : Nat} {g : GS} {pv : AV} {rr : List Nat}

theorem findA_abs (x : Int × Int) (L : List Part) : findA x (L.map Part.abs) = (if findI x L 0 < 0 then L.length else (findI x L 0).toNat) := by
    rcases findI_spec x L 0 with ⟨h1, h2⟩ | ⟨j, h1, hj, h2, h3⟩
    · rw [h1, if_pos (by decide)]
      clear h1
      induction L with
      | nil => rfl
      | cons q l ih =>
        have hq : q.abs.id ≠ x := h2 q (by simp)
        rw [List.map_cons, findA, if_neg hq, ih fun p hp => h2 p (by simp [hp])]
        rfl
    · rw [h1, if_neg (by omega), Nat.zero_add, Int.toNat_natCast]
      clear h1
      induction L generalizing j with
      | nil => simp at hj
      | cons q l ih =>
        rw [List.map_cons]
        cases j with
        | zero => rw [findA, if_pos (show q.abs.id = x from (by simpa using h2 : q.id = x))]
        | succ j =>
          have h0 : q.abs.id ≠ x := (by simpa using h3 0 (by omega) : ¬ q.id = x)
          rw [findA, if_neg h0, ih j (by simpa using hj) (by simpa using h2) fun m hm => by simpa using h3 (m + 1) (by omega)]
end Go.Proofs.YtmkdpenpfkmfpaaDoor.Sim
namespace Go.Proofs.YtmkdpenpfkmfpaaDoor.Sim
set_option linter.unusedSimpArgs false
set_option linter.unusedVariables false
variable {s s' : Store} {gid : Nat} {g : GS} {pv : AV} {rr : List Nat}

theorem cutG_none {lim : Int} {L : List Part} {c : List Int} (h : ¬ ((usedL L : Nat) : Int) > lim) : cutG lim L c = (L, c) := by
  cases L with
  | nil => rfl
  | cons q l => simp only [cutG, if_neg h]
theorem cutG_sub (lim : Int) : ∀ (L : List Part) (c : List Int), (cutG lim L c).1.Sublist L
  | [], c => List.Sublist.refl _
  | q :: l, c => by
    simp only [cutG]
    split
    · exact (cutG_sub lim l _).cons _
    · exact List.Sublist.refl _

theorem admit_no {f : Frm} (h : IsG s gid g pv rr) (hw : f.Wf) (hsz : f.size ≤ 1048576) (hr : f.size ≤ g.room ∧ g.room < 9223372036854775808) (hL : g.L.length ≤ 1000000) (k : Nat) (hk : g.L.length < k)
    (hno : ((usedL g.L : Nat) : Int) > g.room - f.size ∧ g.wanted ≠ f.id) :
    ∃ s', rn (k + 2) 34 [.ptr gid 0 12, .agg f.cells] s = some (.bool false, s') ∧ Ext s s' := by
  rw [show k + 2 = (k + 1) + 1 from rfl, gather_Gather_admit.eq]
  unfold gather_Gather_admit.f gather_Gather_admit.p8 gather_Gather_admit.p7
  have e := Ext.push s (.cells f.cells false)
  have hf : (s.push (.cells f.cells false)).get s.next = .cells f.cells false := by rw [get_push, if_pos rfl]
  have hlen : f.cells.length = 16 := rfl
  have h1 := h.ext e
  have l8 : ∀ {α : Type} (c : AV → Option α), aLoad1 (.ptr s.next (0 + 8) 16) (s.push (.cells f.cells false)) c = c (.int .u32 f.size) := fun c => g_ld hf rfl rfl c
  have w8 : IntKind.i64.wrap f.size = f.size := w_i64 (by have := hw.size0; omega) (by have := hw.size0; omega)
  have ldi : ∀ {α : Type} (c : AV → Option α), aLoadN 2 (.ptr s.next (0 + 3) 16) (s.push (.cells f.cells false)) c = c (.agg [.int .u8 f.id.1, .int .u64 f.id.2]) := fun {α} c => load_n hf rfl (by show 3 + 2 ≤ 16; decide)
  have ldw : ∀ {α : Type} (f1 : AV → Option α), aLoadN 2 (.ptr gid (0 + 4) 12) (s.push (.cells f.cells false)) f1 = f1 (.agg [.int .u8 g.wanted.1, .int .u64 g.wanted.2]) := fun {α} f1 => by
    have := load_n (off := 4) (n := 2) (κ := f1) h1.st rfl (by rw [gcells_len _ _ h.cnt]; decide)
    rw [gcells_len _ _ h.cnt] at this
    exact this
  have hstep := admit_step (fp := s.next) h1 hL ⟨by have := hw.size0; omega, hr.2⟩ ⟨hw.size0.1, hsz⟩ k hk
  have hl0 : ∀ (a b c : AV) (t : Store), gather_Gather_admit.l0 (k + 1) (k + 1) a b c t = gather_Gather_admit.p6 (k + 1) (gather_Gather_admit.l0 (k + 1) k) a b c t := fun _ _ _ _ => rfl
  simp only [cells_agg, new_s, hlen, bnd, guard_tt, guard_ff, guard_tf, guard_ft, pick_t, pick_f, if_t, if_f, add_i, sub_i, lss_i, leq_i, gtr_i, geq_i, eql_i, neq_i, min_i, max_i, conv_i, len_sl, len_nil, not_b, cells_agg, new_s, fld_p, nil_p, l8, w8, hl0, hstep]
  unfold gather_Gather_admit.p5 gather_Gather_admit.p4 gather_Gather_admit.p3
  have hne : decide (f.id = g.wanted) = false := decide_eq_false fun q => hno.2 q.symm
  simp only [decide_eq_true hno.1, bnd, guard_tt, guard_ff, guard_tf, guard_ft, pick_t, pick_f, if_t, if_f, add_i, sub_i, lss_i, leq_i, gtr_i, geq_i, eql_i, neq_i, min_i, max_i, conv_i, len_sl, len_nil, not_b, cells_agg, new_s, fld_p, nil_p, ldi, ldw, eq_id, hne, Bool.not_false]
  exact ⟨_, rfl, e⟩

theorem admit_yes {f : Frm} (h : IsG s gid g pv rr) (hw : f.Wf) (hsz : f.size ≤ 1048576) (hr : f.size ≤ g.room ∧ g.room < 9223372036854775808) (hL : g.L.length ≤ 1000000) (k : Nat) (hk : g.L.length < k)
    (hno : ¬ (((usedL g.L : Nat) : Int) > g.room - f.size ∧ g.wanted ≠ f.id)) :
    ∃ s' pv' r q, rn (k + 2) 34 [.ptr gid 0 12, .agg f.cells] s = some (.bool true, s') ∧
      IsG s' gid { g with L := (cutG (g.room - f.size) g.L g.counts).1 ++ [q], counts := (cutG (g.room - f.size) g.L g.counts).2 } pv' [r] ∧ (q.id = f.id ∧ q.n = (max 0 (min f.of 1048576)).toNat ∧ q.W = newW f.of ∧ q.b = List.replicate f.size.toNat 0) ∧
      (rr = [r] ∨ (rr = [] ∧ s.next ≤ r)) ∧ (∀ x ∈ q.rows, s.next ≤ x) ∧ FrS (gid :: rr) s s' := by
  rw [show k + 2 = (k + 1) + 1 from rfl, gather_Gather_admit.eq]
  unfold gather_Gather_admit.f gather_Gather_admit.p8 gather_Gather_admit.p7
  have e := Ext.push s (.cells f.cells false)
  have hf : (s.push (.cells f.cells false)).get s.next = .cells f.cells false := by rw [get_push, if_pos rfl]
  have hlen : f.cells.length = 16 := rfl
  have h1 := h.ext e
  have hfl : s.next < (s.push (.cells f.cells false)).next := Nat.lt_succ_self _
  have l8 : ∀ {α : Type} (c : AV → Option α), aLoad1 (.ptr s.next (0 + 8) 16) (s.push (.cells f.cells false)) c = c (.int .u32 f.size) := fun c => g_ld hf rfl rfl c
  have w8 : IntKind.i64.wrap f.size = f.size := w_i64 (by have := hw.size0; omega) (by have := hw.size0; omega)
  have hrl := h.rows_lt
  have hg : s.next ≠ gid := fun q => by have := h.lt; omega
  have hr0 : s.next ∉ rr := fun q => by have := hrl s.next (by simp [q]); omega
  have key : ∃ s1 pv1, gather_Gather_admit.l0 (k + 1) (k + 1) (.ptr gid 0 12) (.ptr s.next 0 16) (.int .i64 f.size) (s.push (.cells f.cells false)) = gather_Gather_admit.p1 (k + 1) (.ptr gid 0 12) (.ptr s.next 0 16) (.int .i64 f.size) s1 ∧
      IsG s1 gid { g with L := (cutG (g.room - f.size) g.L g.counts).1, counts := (cutG (g.room - f.size) g.L g.counts).2 } pv1 rr ∧ s1.get s.next = .cells f.cells false ∧ FrS (gid :: rr) (s.push (.cells f.cells false)) s1 := by
    by_cases hu : ((usedL g.L : Nat) : Int) > g.room - f.size
    · have hwd : g.wanted = f.id := Classical.byContradiction fun q => hno ⟨hu, q⟩
      exact admit_loop ⟨hw.size0.1, hsz⟩ hr hwd hg hr0 k g.L (k + 1) _ g.counts pv (by omega) hk hL h1 hf hfl
    · have hstep := admit_step (fp := s.next) h1 hL ⟨by have := hw.size0; omega, hr.2⟩ ⟨hw.size0.1, hsz⟩ k hk
      have hl0 : ∀ (a b c : AV) (t : Store), gather_Gather_admit.l0 (k + 1) (k + 1) a b c t = gather_Gather_admit.p6 (k + 1) (gather_Gather_admit.l0 (k + 1) k) a b c t := fun _ _ _ _ => rfl
      refine ⟨_, pv, ?_, by rw [cutG_none hu]; exact h1, hf, FrS.refl _ _⟩
      rw [hl0, hstep]
      unfold gather_Gather_admit.p5
      simp only [decide_eq_false hu, bnd, guard_tt, guard_ff, guard_tf, guard_ft, pick_t, pick_f, if_t, if_f, add_i, sub_i, lss_i, leq_i, gtr_i, geq_i, eql_i, neq_i, min_i, max_i, conv_i, len_sl, len_nil, not_b, cells_agg, new_s, fld_p, nil_p]
  obtain ⟨s1, pv1, a1, a2, a3, a4⟩ := key
  have hfl1 : s.next < s1.next := Nat.lt_of_lt_of_le hfl a4.next
  obtain ⟨s2, pv2, r, q, b1, b2, b3, b4, b5, b6⟩ := admit_end a2 a3 hfl1 hw hsz (Nat.le_trans (cutG_len _ _ _) hL) k
  simp only [cells_agg, new_s, hlen, bnd, guard_tt, guard_ff, guard_tf, guard_ft, pick_t, pick_f, if_t, if_f, add_i, sub_i, lss_i, leq_i, gtr_i, geq_i, eql_i, neq_i, min_i, max_i, conv_i, len_sl, len_nil, not_b, cells_agg, new_s, fld_p, nil_p, l8, w8, a1, b1]
  have hn : s.next ≤ s1.next := Nat.le_of_lt hfl1
  refine ⟨s2, pv2, r, q, rfl, b2, b3, ?_, fun x hx => Nat.le_trans hn (b5 x hx), ((e.frS (gid :: rr)).trans a4 fun l hl => .inl hl).trans b6 fun l hl => .inl hl⟩
  rcases b4 with q | ⟨q1, q2⟩
  · exact .inl q
  · exact .inr ⟨q1, Nat.le_trans hn q2⟩
end Go.Proofs.YtmkdpenpfkmfpaaDoor.Sim
namespace Go.Proofs.YtmkdpenpfkmfpaaDoor.Sim
set_option linter.unusedSimpArgs false
set_option linter.unusedVariables false
variable {s s' : Store} {gid : Nat} {g : GS} {pv : AV} {rr : List Nat}

/-- What a put leaves. -/
structure PutQ (s : Store) (gid : Nat) (g : GS) (rr : List Nat) (o : AG × List Int × Nat) (v : AV) (made : Nat) (s' : Store) (g' : GS) (pv' : AV) (rr' : List Nat) : Prop where
  isG : IsG s' gid g' pv' rr'
  abs : g'.abs = o.1
  eqm : made = o.2.2
  out : OutB s' v o.2.1 made
  fr : FrS (gid :: (rr ++ (g.L.map Part.rows).flatten)) s s'
  rows : ∀ x ∈ rr' ++ (g'.L.map Part.rows).flatten, x ∈ rr ++ (g.L.map Part.rows).flatten ∨ s.next ≤ x
  outr : ∀ i b c d e, v = .sl i b c d e → i ∈ rr ++ (g.L.map Part.rows).flatten ∨ s.next ≤ i
theorem PutQ.count {w : Nat} (h : IsG s gid g pv rr) (hw : w < 6) (h5 : w ≠ 5) (k : Nat) {s0 : Store} (hs : Ext s s0) :
    ∃ s' g', (rn (k + 1) 31 [.ptr gid 0 12, .int .u8 (w : Int)] s0).bind (fun q1 => some (AV.tuple [AV.nilsl, q1.1], q1.2)) = some (.tuple [.nilsl, .int .u8 (w : Nat)], s') ∧ PutQ s gid g rr ({ g.abs with counts := countC g.counts w }, [], w) .nilsl w s' g' pv rr := by
  obtain ⟨s1, m1, m2, m3⟩ := makes_run (h.ext hs) hw k
  refine ⟨s1, { g with counts := countC g.counts w }, by rw [m1]; rfl, ⟨m2, rfl, rfl, ⟨fun _ => ⟨rfl, rfl⟩, fun q => absurd q h5⟩, (hs.frS _).trans (m3.frS (S := [gid]) (by simp)) fun l hl => .inl (by rw [List.mem_singleton.1 hl]; simp), fun x hx => .inl hx, fun i b c d e q => by cases q⟩⟩

/-- The part is there. -/
theorem put_there {fp : Nat} {f : Frm} {d : List Int} {j : Nat} (h : IsG s gid g pv rr) (hj : j < g.L.length) (hL : g.L.length ≤ 1000000) (hf : s.get fp = .cells f.cells false) (hfl : fp < s.next) (hfo : fp ∉ gid :: (rr ++ (g.L.map Part.rows).flatten)) (hw : f.Wf) (hd : IsV s f.dv .u8 d) (hdo : ∀ i b c d e, f.dv = .sl i b c d e → i ∉ gid :: (rr ++ (g.L.map Part.rows).flatten))
    (hr : rightB f g.chunk g.most d.length = true) (hfind : findA f.id g.abs.L = j) (k : Nat) (hk : 16385 ≤ k) (hok : (idOk f.id && rightB f g.chunk g.most d.length) = true) :
    ∃ s' v g' pv' rr' made, gather_Gather_Put.p11 (k + 5) (.ptr gid 0 12) (.ptr fp 0 16) (.int .i64 (j : Int)) s = some (.tuple [v, .int .u8 (made : Nat)], s') ∧ PutQ s gid g rr (putA g.abs f d) v made s' g' pv' rr' := by
  have hgetA : g.abs.L[findA f.id g.abs.L]? = some g.L[j].abs := by rw [hfind]; simp [GS.abs, hj]
  have hput : putA g.abs f d = (if ((g.L[j].b.length : Nat) : Int) ≠ f.size then ({ g.abs with counts := countC g.counts 1 }, [], 1)
      else if (decide (f.at_ < g.L[j].n) && bitW g.L[j].W f.at_.toNat) = true then ({ g.abs with counts := countC g.counts 2 }, [], 2)
      else layA g.abs j f d) := by
    unfold putA
    rw [if_neg (by show ¬ (idOk f.id && rightB f g.chunk g.most d.length) = false; rw [hok]; simp), hgetA, hfind]
    rfl
  have hq := h.parts _ (List.getElem_mem hj)
  unfold gather_Gather_Put.p11
  have ldp : ∀ {α : Type} (f1 : AV → Option α), aLoad1 (.ptr gid (0 + 3) 12) s f1 = f1 pv := fun f1 => g_ld h.st (gcells_len _ pv h.cnt) rfl f1
  obtain ⟨r, ep, a1, a2⟩ := h.ptrs.at hj
  have l1 : ∀ {α : Type} (c : AV → Option α), aLoad1 (.ptr g.L[j].p (0 + 3) 4) s c = c (.sl g.L[j].bid 0 g.L[j].b.length 1 g.L[j].b.length) := fun c => g_ld hq.st rfl rfl c
  have l0 : ∀ {α : Type} (c : AV → Option α), aLoad1 (.ptr g.L[j].p (0 + 0) 4) s c = c (.ptr g.L[j].sid 0 2) := fun c => g_ld hq.st rfl rfl c
  have l8 : ∀ {α : Type} (c : AV → Option α), aLoad1 (.ptr fp (0 + 8) 16) s c = c (.int .u32 f.size) := fun c => g_ld hf rfl rfl c
  have l6 : ∀ {α : Type} (c : AV → Option α), aLoad1 (.ptr fp (0 + 6) 16) s c = c (.int .u32 f.at_) := fun c => g_ld hf rfl rfl c
  have w8 : IntKind.i64.wrap f.size = f.size := w_i64 (by have := hw.size0; omega) (by have := hw.size0; omega)
  have w6 : IntKind.i64.wrap f.at_ = f.at_ := w_i64 (by have := hw.at0; omega) (by have := hw.at0; omega)
  have hge : decide ((j : Int) ≥ 0) = true := decide_eq_true (by omega)
  have hneq : (!(((g.L[j].b.length : Nat) : Int) == f.size)) = decide (((g.L[j].b.length : Nat) : Int) ≠ f.size) := by
    by_cases q : ((g.L[j].b.length : Nat) : Int) = f.size <;> simp [q]
  have hnb : ∀ {α : Type} (a b : Int) (c : AV → Option α), aBin .neq (.int .i64 a) (.int .i64 b) c = c (.bool (!(a == b))) := fun a b c => rfl
  simp only [bnd, guard_tt, guard_ff, guard_tf, guard_ft, pick_t, pick_f, if_t, if_f, add_i, sub_i, lss_i, leq_i, gtr_i, geq_i, eql_i, neq_i, min_i, max_i, conv_i, len_sl, len_nil, not_b, cells_agg, new_s, fld_p, nil_p, geq_i, hge, ldp, a1, a2, Part.ptr, l1, l8, w8, hnb, hneq]
  unfold gather_Gather_Put.p10 gather_Gather_Put.p7
  by_cases hs : ((g.L[j].b.length : Nat) : Int) ≠ f.size
  · simp only [decide_eq_true hs, bnd, guard_tt, guard_ff, guard_tf, guard_ft, pick_t, pick_f, if_t, if_f, add_i, sub_i, lss_i, leq_i, gtr_i, geq_i, eql_i, neq_i, min_i, max_i, conv_i, len_sl, len_nil, not_b, cells_agg, new_s, fld_p, nil_p]
    obtain ⟨s1, g1, c1, c2⟩ := PutQ.count h (w := 1) (by decide) (by decide) (k + 4) (Ext.refl s)
    rw [if_pos hs] at hput
    exact ⟨s1, _, g1, pv, rr, 1, c1, by rw [hput]; exact c2⟩
  simp only [decide_eq_false hs, bnd, guard_tt, guard_ff, guard_tf, guard_ft, pick_t, pick_f, if_t, if_f, add_i, sub_i, lss_i, leq_i, gtr_i, geq_i, eql_i, neq_i, min_i, max_i, conv_i, len_sl, len_nil, not_b, cells_agg, new_s, fld_p, nil_p]
  unfold gather_Gather_Put.p9
  have hhas := bits_has hq.set f.at_ (k + 3)
  have e0 : (decide (0 ≤ f.at_)) = true := decide_eq_true hw.at0.1
  rw [e0, Bool.true_and] at hhas
  have hhas' : rn (k + 5) 33 [.ptr g.L[j].sid 0 2, .int .i64 f.at_] s = some (.bool (decide (f.at_ < g.L[j].n) && bitW g.L[j].W f.at_.toNat), s) := hhas
  simp only [bnd, guard_tt, guard_ff, guard_tf, guard_ft, pick_t, pick_f, if_t, if_f, add_i, sub_i, lss_i, leq_i, gtr_i, geq_i, eql_i, neq_i, min_i, max_i, conv_i, len_sl, len_nil, not_b, cells_agg, new_s, fld_p, nil_p, geq_i, hge, ldp, a1, a2, Part.ptr, l0, l6, w6, hhas']
  unfold gather_Gather_Put.p8
  rw [if_neg hs] at hput
  by_cases hb : (decide (f.at_ < g.L[j].n) && bitW g.L[j].W f.at_.toNat) = true
  · simp only [hb, bnd, guard_tt, guard_ff, guard_tf, guard_ft, pick_t, pick_f, if_t, if_f, add_i, sub_i, lss_i, leq_i, gtr_i, geq_i, eql_i, neq_i, min_i, max_i, conv_i, len_sl, len_nil, not_b, cells_agg, new_s, fld_p, nil_p]
    obtain ⟨s1, g1, c1, c2⟩ := PutQ.count h (w := 2) (by decide) (by decide) (k + 4) (Ext.refl s)
    rw [if_pos hb] at hput
    exact ⟨s1, _, g1, pv, rr, 2, c1, by rw [hput]; exact c2⟩
  have hlt : decide ((j : Int) < 0) = false := decide_eq_false (by omega)
  simp only [Bool.eq_false_iff.2 hb, bnd, guard_tt, guard_ff, guard_tf, guard_ft, pick_t, pick_f, if_t, if_f, add_i, sub_i, lss_i, leq_i, gtr_i, geq_i, eql_i, neq_i, min_i, max_i, conv_i, len_sl, len_nil, not_b, cells_agg, new_s, fld_p, nil_p, lss_i, hlt, guard_skip]
  rw [if_neg hb] at hput
  obtain ⟨r1, r2, r3, r4, r5, r6, r7, r8, r9, r10⟩ := right_of hr hw
  obtain ⟨off, hoff⟩ : ∃ off : Nat, f.at_ * g.chunk = (off : Int) := ⟨(f.at_ * g.chunk).toNat, by omega⟩
  have hbl : ((g.L[j].b.length : Nat) : Int) = f.size := Classical.byContradiction hs
  obtain ⟨s1, v, g1, pv1, made, b, c1, c2, c3, c4, c5, c6, c7⟩ := lay_run h hj hL hf hfl hfo hw hd hdo hoff (by omega) k hk
  refine ⟨s1, v, g1, pv1, rr, made, c1, ?_⟩
  rw [hput, ← c3]
  refine ⟨c2, rfl, rfl, c4, c5, fun x hx => .inl ?_, fun i b c d e q => .inl (List.mem_append_right _ (c7 i b c d e q))⟩
  rcases List.mem_append.1 hx with q | q
  · exact List.mem_append_left _ q
  · exact List.mem_append_right _ (c6 x q)
end Go.Proofs.YtmkdpenpfkmfpaaDoor.Sim
namespace Go.Proofs.YtmkdpenpfkmfpaaDoor.Sim
set_option linter.unusedSimpArgs false
set_option linter.unusedVariables false
variable {s s' : Store} {gid : Nat} {g : GS} {pv : AV} {rr : List Nat}

/-- There is no part of it. -/
theorem put_none {fp : Nat} {f : Frm} {d : List Int} (h : IsG s gid g pv rr) (hL : g.L.length ≤ 900000) (hf : s.get fp = .cells f.cells false) (hfl : fp < s.next) (hfo : fp ∉ gid :: (rr ++ (g.L.map Part.rows).flatten)) (hw : f.Wf) (hd : IsV s f.dv .u8 d) (hdo : ∀ i b c d e, f.dv = .sl i b c d e → i < s.next ∧ i ∉ gid :: (rr ++ (g.L.map Part.rows).flatten))
    (hr : rightB f g.chunk g.most d.length = true) (hfind : findA f.id g.abs.L = g.L.length) (hm : g.most ≤ g.room ∧ g.room < 9223372036854775808) (k : Nat) (hk : 16385 ≤ k) (hkL : g.L.length < k) (hok : (idOk f.id && rightB f g.chunk g.most d.length) = true) :
    ∃ s' v g' pv' rr' made, gather_Gather_Put.p11 (k + 5) (.ptr gid 0 12) (.ptr fp 0 16) (.int .i64 (-1)) s = some (.tuple [v, .int .u8 (made : Nat)], s') ∧ PutQ s gid g rr (putA g.abs f d) v made s' g' pv' rr' := by
  obtain ⟨r1, r2, r3, r4, r5, r6, r7, r8, r9, r10⟩ := right_of hr hw
  have hgetA : g.abs.L[findA f.id g.abs.L]? = none := by rw [hfind]; simp [GS.abs]
  have huA : usedA g.abs.L = usedL g.L := usedA_abs g.L
  have hcA : cutA (g.abs.room - f.size) g.abs.L g.abs.counts = ((cutG (g.room - f.size) g.L g.counts).1.map Part.abs, (cutG (g.room - f.size) g.L g.counts).2) := cutA_abs _ _ _
  have hput : putA g.abs f d = (if ((usedL g.L : Nat) : Int) > g.room - f.size ∧ g.wanted ≠ f.id then ({ g.abs with counts := countC g.counts 3 }, [], 3)
      else layA { g.abs with L := (cutG (g.room - f.size) g.L g.counts).1.map Part.abs ++ [AP.new f], counts := (cutG (g.room - f.size) g.L g.counts).2 } ((cutG (g.room - f.size) g.L g.counts).1.map Part.abs).length f d) := by
    unfold putA
    rw [if_neg (by show ¬ (idOk f.id && rightB f g.chunk g.most d.length) = false; rw [hok]; simp), hgetA, huA, hcA]
    rfl
  have hge : decide ((-1 : Int) ≥ 0) = false := rfl
  have hlt : decide ((-1 : Int) < 0) = true := rfl
  unfold gather_Gather_Put.p11 gather_Gather_Put.p10 gather_Gather_Put.p9 gather_Gather_Put.p8
  have ldf : ∀ {α : Type} (c : AV → Option α), aLoadN 16 (.ptr fp 0 16) s c = c (.agg f.cells) := fun {α} c => load_n hf rfl (by show 0 + 16 ≤ 16; decide)
  simp only [bnd, guard_tt, guard_ff, guard_tf, guard_ft, pick_t, pick_f, if_t, if_f, add_i, sub_i, lss_i, leq_i, gtr_i, geq_i, eql_i, neq_i, min_i, max_i, conv_i, len_sl, len_nil, not_b, cells_agg, new_s, fld_p, nil_p, geq_i, hge, guard_skip, lss_i, hlt, ldf]
  by_cases hno : ((usedL g.L : Nat) : Int) > g.room - f.size ∧ g.wanted ≠ f.id
  · obtain ⟨s1, a1, a2⟩ := admit_no h hw r8 ⟨by omega, hm.2⟩ (by omega) (k + 3) (by omega) hno
    have a1' : rn (k + 5) 34 [.ptr gid 0 12, .agg f.cells] s = some (.bool false, s1) := a1
    obtain ⟨s2, g1, c1, c2⟩ := PutQ.count h (w := 3) (by decide) (by decide) (k + 4) a2
    simp only [a1', bnd, guard_tt, guard_ff, guard_tf, guard_ft, pick_t, pick_f, if_t, if_f, add_i, sub_i, lss_i, leq_i, gtr_i, geq_i, eql_i, neq_i, min_i, max_i, conv_i, len_sl, len_nil, not_b, cells_agg, new_s, fld_p, nil_p, Bool.not_false]
    rw [if_pos hno] at hput
    exact ⟨s2, _, g1, pv, rr, 3, c1, by rw [hput]; exact c2⟩
  obtain ⟨s1, pv1, r, q, a1, a2, a3, a4, a5, a6⟩ := admit_yes h hw r8 ⟨by omega, hm.2⟩ (by omega) (k + 3) (by omega) hno
  have a1' : rn (k + 5) 34 [.ptr gid 0 12, .agg f.cells] s = some (.bool true, s1) := a1
  rw [if_neg hno] at hput
  have hcl := cutG_len (g.room - f.size) g.L g.counts
  have hcs := cutG_sub (g.room - f.size) g.L g.counts
  generalize hLc : (cutG (g.room - f.size) g.L g.counts).1 = Lc at a2 hput hcl hcs
  generalize hcc : (cutG (g.room - f.size) g.L g.counts).2 = cc at a2 hput
  have ldp : ∀ {α : Type} (f1 : AV → Option α), aLoad1 (.ptr gid (0 + 3) 12) s1 f1 = f1 pv1 := fun f1 => g_ld a2.st (gcells_len _ pv1 a2.cnt) rfl f1
  have hlen := fun {α : Type} (c : AV → Option α) => a2.ptrs.len c
  have hw1 : IntKind.i64.wrap (((Lc ++ [q]).length : Nat) - 1 : Int) = (Lc.length : Nat) := by
    rw [List.length_append]
    have : ((Lc.length + [q].length : Nat) : Int) - 1 = (Lc.length : Nat) := by simp
    rw [this, w_i64 (by omega) (by omega)]
  simp only [a1', bnd, guard_tt, guard_ff, guard_tf, guard_ft, pick_t, pick_f, if_t, if_f, add_i, sub_i, lss_i, leq_i, gtr_i, geq_i, eql_i, neq_i, min_i, max_i, conv_i, len_sl, len_nil, not_b, cells_agg, new_s, fld_p, nil_p, Bool.not_true, lss_i, hlt, ldp, hlen, hw1]
  have hnewrows : ∀ x ∈ gid :: ([r] ++ ((Lc ++ [q]).map Part.rows).flatten), x ∈ gid :: (rr ++ (g.L.map Part.rows).flatten) ∨ s.next ≤ x := by
    intro x hx
    rcases List.mem_cons.1 hx with rfl | hx
    · exact .inl (by simp)
    rcases List.mem_append.1 hx with hx | hx
    · rw [List.mem_singleton.1 hx]
      rcases a4 with q2 | ⟨_, q2⟩
      · exact .inl (by rw [q2]; simp)
      · exact .inr q2
    · rw [List.map_append, List.flatten_append] at hx
      rcases List.mem_append.1 hx with hx | hx
      · exact .inl (List.mem_cons_of_mem _ (List.mem_append_right _ ((rows_sub hcs).subset hx)))
      · exact .inr (a5 x (by simpa using hx))
  have hmem : ∀ x ∈ gid :: rr, x ∈ gid :: (rr ++ (g.L.map Part.rows).flatten) := by
    intro x hx
    rcases List.mem_cons.1 hx with rfl | hx
    · simp
    · exact List.mem_cons_of_mem _ (List.mem_append_left _ hx)
  have hf1 : s1.get fp = .cells f.cells false := (a6.get fp hfl fun q2 => hfo (hmem _ q2)).trans hf
  have hd1 : IsV s1 f.dv .u8 d := by
    rcases hd with ⟨q1, q2⟩ | ⟨i, off, m, bs, q1, q2, q3, q4, q5⟩
    · exact .inl ⟨q1, q2⟩
    · exact .inr ⟨i, off, m, bs, q1, Nat.lt_of_lt_of_le q2 a6.next, (a6.get i q2 fun q6 => (hdo _ _ _ _ _ q1).2 (hmem _ q6)).trans q3, q4, q5⟩
  have hfn1 : fp ∉ gid :: ([r] ++ ((Lc ++ [q]).map Part.rows).flatten) := fun q2 => by
    rcases hnewrows _ q2 with q3 | q3
    · exact hfo q3
    · omega
  obtain ⟨off, hoff⟩ : ∃ off : Nat, f.at_ * g.chunk = (off : Int) := ⟨(f.at_ * g.chunk).toNat, by omega⟩
  have hjl : Lc.length < (Lc ++ [q]).length := by simp
  have hgj : (Lc ++ [q])[Lc.length] = q := by simp
  obtain ⟨s2, v, g1, pv2, made, b, c1, c2, c3, c4, c5, c6, c7⟩ := lay_run (j := Lc.length) (off := off) (d := d) a2 hjl (by show (Lc ++ [q]).length ≤ _; simp; omega) hf1 (Nat.lt_of_lt_of_le hfl a6.next) hfn1 hw hd1 (fun i b c d e q2 q3 => by
    have h9 := hdo _ _ _ _ _ q2
    rcases hnewrows _ q3 with q4 | q4
    · exact h9.2 q4
    · omega) hoff (by show off + d.length ≤ (Lc ++ [q])[Lc.length].b.length; rw [hgj, a3.2.2.2, List.length_replicate]; omega) k hk
  refine ⟨s2, v, g1, pv2, [r], made, c1, ?_⟩
  have habs : (GS.abs { g with L := Lc ++ [q], counts := cc }) = { g.abs with L := Lc.map Part.abs ++ [AP.new f], counts := cc } := by
    have hq : q.abs = AP.new f := by
      unfold Part.abs AP.new
      rw [a3.1, a3.2.1, a3.2.2.1, a3.2.2.2]
    simp [GS.abs, hq]
  rw [hput, List.length_map, ← habs, ← c3]
  refine ⟨c2, rfl, rfl, c4, ?_, fun x hx => ?_, fun i b c d e q2 => ?_⟩
  rotate_left 2
  · rcases hnewrows i (List.mem_cons_of_mem _ (List.mem_append_right _ (c7 i b c d e q2))) with q3 | q3
    · rcases List.mem_cons.1 q3 with q4 | q4
      · exfalso
        have := List.nodup_cons.1 a2.nodup
        exact this.1 (by rw [← q4]; exact List.mem_append_right _ (c7 i b c d e q2))
      · exact .inl q4
    · exact .inr q3
  · refine (FrS.trans (S := gid :: (rr ++ (g.L.map Part.rows).flatten)) ⟨a6.next, fun l hl hn => a6.get l hl fun q2 => hn (hmem _ q2)⟩ c5) fun l hl => hnewrows l hl
  · have hx2 : x ∈ gid :: ([r] ++ ((Lc ++ [q]).map Part.rows).flatten) := by
      rcases List.mem_append.1 hx with q2 | q2
      · exact List.mem_cons_of_mem _ (List.mem_append_left _ q2)
      · exact List.mem_cons_of_mem _ (List.mem_append_right _ (c6 x q2))
    rcases hnewrows x hx2 with q2 | q2
    · rcases List.mem_cons.1 q2 with q3 | q3
      · exfalso
        have := List.nodup_cons.1 c2.nodup
        exact this.1 (by rw [← q3]; exact hx)
      · exact .inl q3
    · exact .inr q2

/-- A frame is put. -/
theorem put_run {f : Frm} {d : List Int} (h : IsG s gid g pv rr) (hL : g.L.length ≤ 900000) (hw : f.Wf) (hid : 0 ≤ f.id.1 ∧ f.id.1 < 256) (hd : IsV s f.dv .u8 d) (hdo : ∀ i b c d e, f.dv = .sl i b c d e → i ∉ gid :: (rr ++ (g.L.map Part.rows).flatten))
    (hm : g.most ≤ g.room ∧ g.room < 9223372036854775808) (k : Nat) (hk : 16385 ≤ k) (hkL : g.L.length < k) :
    ∃ s' v g' pv' rr' made, rn (k + 6) 10 [.ptr gid 0 12, .agg f.cells] s = some (.tuple [v, .int .u8 (made : Nat)], s') ∧ PutQ s gid g rr (putA g.abs f d) v made s' g' pv' rr' := by
  rw [show k + 6 = (k + 5) + 1 from rfl, gather_Gather_Put.eq]
  unfold gather_Gather_Put.f gather_Gather_Put.p16 gather_Gather_Put.p15
  have e := Ext.push s (.cells f.cells false)
  have hf : (s.push (.cells f.cells false)).get s.next = .cells f.cells false := by rw [get_push, if_pos rfl]
  have hlen : f.cells.length = 16 := rfl
  have hfl : s.next < (s.push (.cells f.cells false)).next := Nat.lt_succ_self _
  simp only [cells_agg, new_s, hlen, bnd, guard_tt, guard_ff, guard_tf, guard_ft, pick_t, pick_f, if_t, if_f, add_i, sub_i, lss_i, leq_i, gtr_i, geq_i, eql_i, neq_i, min_i, max_i, conv_i, len_sl, len_nil, not_b, cells_agg, new_s, fld_p, nil_p, eq_pn]
  have h0 := h.ext e
  obtain ⟨s1, b1, b2⟩ := put_gate h0 hf hfl hw hid (hd.ext e) (k + 1)
  have b1' : gather_Gather_Put.p14 (k + 5) (.ptr gid 0 12) (.ptr s.next 0 16) (s.push (.cells f.cells false)) = gather_Gather_Put.p13 (k + 5) (.ptr gid 0 12) (.ptr s.next 0 16) (.bool (!(idOk f.id && rightB f g.chunk g.most d.length))) s1 := b1
  rw [b1']
  have e1 := e.trans b2
  have h1 := h.ext e1
  unfold gather_Gather_Put.p13
  by_cases hok : (idOk f.id && rightB f g.chunk g.most d.length) = true
  rotate_left
  · have hok' := Bool.eq_false_iff.2 hok
    simp only [hok', Bool.not_false, bnd, guard_tt, guard_ff, guard_tf, guard_ft, pick_t, pick_f, if_t, if_f, add_i, sub_i, lss_i, leq_i, gtr_i, geq_i, eql_i, neq_i, min_i, max_i, conv_i, len_sl, len_nil, not_b, cells_agg, new_s, fld_p, nil_p]
    obtain ⟨s2, g1, c1, c2⟩ := PutQ.count h (w := 1) (by decide) (by decide) (k + 4) e1
    refine ⟨s2, _, g1, pv, rr, 1, c1, ?_⟩
    have hput : putA g.abs f d = ({ g.abs with counts := countC g.counts 1 }, [], 1) := by
      unfold putA
      rw [if_pos (by exact hok')]
      rfl
    rw [hput]
    exact c2
  have hr : rightB f g.chunk g.most d.length = true := (Bool.and_eq_true_iff.1 hok).2
  simp only [hok, Bool.not_true, bnd, guard_tt, guard_ff, guard_tf, guard_ft, pick_t, pick_f, if_t, if_f, add_i, sub_i, lss_i, leq_i, gtr_i, geq_i, eql_i, neq_i, min_i, max_i, conv_i, len_sl, len_nil, not_b, cells_agg, new_s, fld_p, nil_p]
  unfold gather_Gather_Put.p12
  have hf1 : s1.get s.next = .cells f.cells false := (b2.get _ hfl).trans hf
  have ldi : ∀ {α : Type} (c : AV → Option α), aLoadN 2 (.ptr s.next (0 + 3) 16) s1 c = c (.agg [.int .u8 f.id.1, .int .u64 f.id.2]) := fun {α} c => load_n hf1 rfl (by show 3 + 2 ≤ 16; decide)
  obtain ⟨s2, c1, c2⟩ := find_run h1 (by omega) f.id (k + 2) (by omega)
  have c1' : rn (k + 5) 32 [.ptr gid 0 12, .agg [.int .u8 f.id.1, .int .u64 f.id.2]] s1 = some (.int .i64 (findI f.id g.L 0), s2) := c1
  simp only [bnd, guard_tt, guard_ff, guard_tf, guard_ft, pick_t, pick_f, if_t, if_f, add_i, sub_i, lss_i, leq_i, gtr_i, geq_i, eql_i, neq_i, min_i, max_i, conv_i, len_sl, len_nil, not_b, cells_agg, new_s, fld_p, nil_p, ldi, c1']
  have e2 := e1.trans c2
  have h2 := h.ext e2
  have hf2 : s2.get s.next = .cells f.cells false := (c2.get _ (Nat.lt_of_lt_of_le hfl b2.next)).trans hf1
  have hfl2 : s.next < s2.next := Nat.lt_of_lt_of_le (Nat.lt_of_lt_of_le hfl b2.next) c2.next
  have hfo : s.next ∉ gid :: (rr ++ (g.L.map Part.rows).flatten) := fun q => Nat.lt_irrefl _ (h.rows_lt _ q)
  have hfA : findA f.id g.abs.L = _ := findA_abs f.id g.L
  have fin : ∀ {s' : Store} {v : AV} {g' : GS} {pv' : AV} {rr' : List Nat} {made : Nat}, PutQ s2 gid g rr (putA g.abs f d) v made s' g' pv' rr' → PutQ s gid g rr (putA g.abs f d) v made s' g' pv' rr' := fun q =>
    ⟨q.isG, q.abs, q.eqm, q.out, (e2.frS _).trans q.fr fun l hl => .inl hl, fun x hx => (q.rows x hx).imp id fun q2 => Nat.le_trans e2.next q2, fun i b c d e' q3 => (q.outr i b c d e' q3).imp id fun q2 => Nat.le_trans e2.next q2⟩
  rcases findI_spec f.id g.L 0 with ⟨q1, q2⟩ | ⟨j, q1, hj, q2, q3⟩
  · rw [q1] at hfA ⊢
    rw [if_pos (by decide)] at hfA
    obtain ⟨s3, v, g1, pv1, rr1, made, d1, d2⟩ := put_none h2 hL hf2 hfl2 hfo hw (hd.ext e2) (fun i b c d e q => ⟨Nat.lt_of_lt_of_le (hd.lt _ _ _ _ _ q) e2.next, hdo i b c d e q⟩) hr hfA hm k hk hkL hok
    exact ⟨s3, v, g1, pv1, rr1, made, d1, fin d2⟩
  · rw [q1, Nat.zero_add] at hfA ⊢
    rw [if_neg (by omega), Int.toNat_natCast] at hfA
    obtain ⟨s3, v, g1, pv1, rr1, made, d1, d2⟩ := put_there h2 hj (by omega) hf2 hfl2 hfo hw (hd.ext e2) hdo hr hfA k hk hok
    exact ⟨s3, v, g1, pv1, rr1, made, d1, fin d2⟩
end Go.Proofs.YtmkdpenpfkmfpaaDoor.Sim
namespace Go.Proofs.YtmkdpenpfkmfpaaDoor.Sim
set_option linter.unusedSimpArgs false
set_option linter.unusedVariables false

theorem usedA_app (a b : List AP) : usedA (a ++ b) = usedA a + usedA b := by simp [usedA]
theorem usedA_erase : ∀ (L : List AP) (j : Nat), usedA (L.eraseIdx j) ≤ usedA L
  | [], j => Nat.le_refl _
  | q :: l, 0 => by simp [usedA]
  | q :: l, j + 1 => by
    have := usedA_erase l j
    simp only [usedA, List.eraseIdx_cons_succ, List.map_cons, List.sum_cons] at this ⊢
    omega
theorem usedA_set : ∀ (L : List AP) (j : Nat) (q q' : AP), L[j]? = some q → q'.b.length = q.b.length → usedA (L.set j q') = usedA L
  | [], j, q, q', h, _ => by simp at h
  | p :: l, 0, q, q', h, hl => by
    simp at h
    subst h
    simp [usedA, hl]
  | p :: l, j + 1, q, q', h, hl => by
    have := usedA_set l j q q' (by simpa using h) hl
    simp only [usedA, List.set_cons_succ, List.map_cons, List.sum_cons] at this ⊢
    omega
theorem cutA_used {lim : Int} (h0 : 0 ≤ lim) : ∀ (L : List AP) (c : List Int), ((usedA (cutA lim L c).1 : Nat) : Int) ≤ lim
  | [], c => by simpa [cutA, usedA] using h0
  | q :: l, c => by
    simp only [cutA]
    split
    · exact cutA_used h0 l _
    · rename_i h; exact Int.not_lt.1 h
theorem cutA_len (lim : Int) : ∀ (L : List AP) (c : List Int), (cutA lim L c).1.length ≤ L.length
  | [], c => Nat.le_refl _
  | q :: l, c => by
    simp only [cutA]
    split
    · exact Nat.le_succ_of_le (cutA_len lim l _)
    · exact Nat.le_refl _

/-- What a put does not change. -/
structure SameA (g g' : AG) : Prop where
  chunk : g'.chunk = g.chunk
  most : g'.most = g.most
  room : g'.room = g.room
  wanted : g'.wanted = g.wanted
theorem layA_room (g : AG) (j : Nat) (f : Frm) (d : List Int) (h : ∀ q, g.L[j]? = some q → (f.at_ * g.chunk).toNat + d.length ≤ q.b.length) :
    SameA g (layA g j f d).1 ∧ usedA (layA g j f d).1.L ≤ usedA g.L ∧ (layA g j f d).1.L.length ≤ g.L.length ∧ (layA g j f d).2.2 ≠ 3 := by
  unfold layA
  cases hq : g.L[j]? with
  | none => exact ⟨⟨rfl, rfl, rfl, rfl⟩, Nat.le_refl _, Nat.le_refl _, (show (0 : Nat) ≠ 3 by decide)⟩
  | some q0 =>
    simp only
    split
    · refine ⟨⟨rfl, rfl, rfl, rfl⟩, usedA_erase _ _, ?_, (show (5 : Nat) ≠ 3 by decide)⟩
      show (g.L.eraseIdx j).length ≤ _
      exact (List.eraseIdx_sublist g.L j).length_le
    · refine ⟨⟨rfl, rfl, rfl, rfl⟩, Nat.le_of_eq (usedA_set _ _ _ _ hq (splice_len (h q0 hq))), ?_, (show (4 : Nat) ≠ 3 by decide)⟩
      show (g.L.set j _).length ≤ _
      rw [List.length_set]
      exact Nat.le_refl _
theorem putA_room {g : AG} {f : Frm} {d : List Int} (hw : f.Wf) (hm : g.most ≤ g.room) (hu : ((usedA g.L : Nat) : Int) ≤ g.room) :
    SameA g (putA g f d).1 ∧ ((usedA (putA g f d).1.L : Nat) : Int) ≤ g.room ∧ (putA g f d).1.L.length ≤ g.L.length + 1 ∧ (g.wanted = f.id → (putA g f d).2.2 ≠ 3) := by
  unfold putA
  split
  · exact ⟨⟨rfl, rfl, rfl, rfl⟩, hu, Nat.le_succ _, fun _ => (show (1 : Nat) ≠ 3 by decide)⟩
  rename_i hok
  have hr : rightB f g.chunk g.most d.length = true := by
    have : (idOk f.id && rightB f g.chunk g.most d.length) = true := by simpa using hok
    exact (Bool.and_eq_true_iff.1 this).2
  obtain ⟨r1, r2, r3, r4, r5, r6, r7, r8, r9, r10⟩ := right_of hr hw
  cases hq : g.L[findA f.id g.L]? with
  | some q =>
    simp only
    split
    · exact ⟨⟨rfl, rfl, rfl, rfl⟩, hu, Nat.le_succ _, fun _ => (show (1 : Nat) ≠ 3 by decide)⟩
    rename_i hs
    have hs' : (q.b.length : Int) = f.size := Classical.byContradiction fun e => hs e
    split
    · exact ⟨⟨rfl, rfl, rfl, rfl⟩, hu, Nat.le_succ _, fun _ => (show (2 : Nat) ≠ 3 by decide)⟩
    · obtain ⟨l1, l2, l3, l4⟩ := layA_room g (findA f.id g.L) f d (fun q2 h2 => by rw [hq] at h2; cases h2; omega)
      exact ⟨l1, by omega, Nat.le_succ_of_le l3, fun _ => l4⟩
  | none =>
    simp only
    split
    · rename_i hno
      exact ⟨⟨rfl, rfl, rfl, rfl⟩, hu, Nat.le_succ _, fun e => absurd e hno.2⟩
    · obtain ⟨l1, l2, l3, l4⟩ := layA_room { g with L := (cutA (g.room - f.size) g.L g.counts).1 ++ [AP.new f], counts := (cutA (g.room - f.size) g.L g.counts).2 } (cutA (g.room - f.size) g.L g.counts).1.length f d (fun q2 h2 => by
        have h3 : q2 = AP.new f := by simpa using h2.symm
        rw [h3]
        show _ ≤ (List.replicate f.size.toNat (0 : Int)).length
        rw [List.length_replicate]
        show (f.at_ * g.chunk).toNat + d.length ≤ _
        omega)
      have hc := cutA_used (lim := g.room - f.size) (by omega) g.L g.counts
      have hl := cutA_len (g.room - f.size) g.L g.counts
      rw [usedA_app] at l2
      have hn : usedA [AP.new f] = f.size.toNat := by simp [usedA, AP.new]
      have h0 := hw.size0
      refine ⟨⟨l1.chunk, l1.most, l1.room, l1.wanted⟩, by omega, ?_, fun _ => l4⟩
      refine Nat.le_trans l3 ?_
      show (_ ++ [AP.new f]).length ≤ _
      rw [List.length_append]
      exact Nat.succ_le_succ hl
end Go.Proofs.YtmkdpenpfkmfpaaDoor.Sim
namespace Go.Proofs.YtmkdpenpfkmfpaaDoor.Sim
set_option linter.unusedSimpArgs false
set_option linter.unusedVariables false

def countQ (sz k : Nat) : Nat := max 1 ((sz + k - 1) / k)
theorem countQ_eq {sz k : Nat} (hs : sz ≤ 1048576) (h1 : 1 ≤ k) (h2 : k ≤ 65536) : countN (sz : Int) (k : Int) = (countQ sz k : Nat) := by
  unfold countN countQ
  rw [if_pos ⟨by omega, by omega, by omega, by omega⟩]
  have : ((sz : Int) + (k : Int) - 1) / (k : Int) = (((sz + k - 1) / k : Nat) : Int) := by
    rw [Int.natCast_ediv]
    congr 1
    omega
  rw [this]
  omega
theorem countQ_at {sz k i : Nat} (h1 : 1 ≤ k) (hi : i < countQ sz k) : i * k ≤ sz := by
  unfold countQ at hi
  by_cases h : i = 0
  · subst h; simp
  · have h2 : i + 1 ≤ (sz + k - 1) / k := by omega
    have h3 : (i + 1) * k ≤ sz + k - 1 := (Nat.le_div_iff_mul_le (by omega)).1 h2
    rw [Nat.succ_mul] at h3
    omega
theorem countQ_all {sz k : Nat} (h1 : 1 ≤ k) : sz ≤ countQ sz k * k := by
  have h2 : (sz + k - 1) / k * k + (sz + k - 1) % k = sz + k - 1 := by rw [Nat.mul_comm]; exact Nat.div_add_mod _ _
  have h3 : (sz + k - 1) % k < k := Nat.mod_lt _ (by omega)
  have h4 : (sz + k - 1) / k * k ≤ countQ sz k * k := Nat.mul_le_mul_right _ (by unfold countQ; omega)
  omega
theorem countQ_le {sz k : Nat} (h1 : 1 ≤ k) : countQ sz k ≤ sz + 1 := by
  unfold countQ
  have : (sz + k - 1) / k ≤ sz := by
    rcases Nat.eq_zero_or_pos sz with h | h
    · subst h
      rw [Nat.div_eq_of_lt (by omega)]
      exact Nat.zero_le _
    · refine Nat.div_le_of_le_mul ?_
      have h5 : 1 * sz ≤ k * sz := Nat.mul_le_mul_right _ h1
      have h6 : k * 1 ≤ k * sz := Nat.mul_le_mul_left _ h
      have h7 : (k - 1) * 1 ≤ (k - 1) * sz := Nat.mul_le_mul_left _ h
      have h8 : k * sz = (k - 1) * sz + sz := by
        conv => lhs; rw [show k = (k - 1) + 1 by omega, Nat.succ_mul]
      omega
  omega
def cutAt (p : List Int) (k i : Nat) : List Int := (p.drop (i * k)).take k
theorem cutAt_len (p : List Int) (k i : Nat) : (cutAt p k i).length = min k (p.length - i * k) := by simp [cutAt]

/-- A part of which the chunks 'hs' are there, of a payload p. -/
structure QI (id : Int × Int) (k : Nat) (p : List Int) (hs : List Bool) (q : AP) : Prop where
  id : q.id = id
  n : q.n = hs.length
  len : q.W.length = (hs.length + 63) / 64
  blen : q.b.length = p.length
  bits : ∀ i, bitW q.W i = hs.getD i false
  dat : ∀ i, hs.getD i false = true → ∀ t, i * k ≤ t → t < (i + 1) * k → q.b[t]? = p[t]?
theorem getD_out {hs : List Bool} {i : Nat} (h : hs.length ≤ i) : hs.getD i false = false := by
  rw [List.getD_eq_getElem?_getD, List.getElem?_eq_none h]; rfl
theorem count_range (hs : List Bool) : (List.range hs.length).countP (fun i => hs.getD i false) = hs.count true := by
  have h : hs = (List.range hs.length).map fun i => hs.getD i false := by
    apply List.ext_getElem?
    intro i
    by_cases hi : i < hs.length
    · rw [List.getElem?_map, List.getElem?_range hi]
      simp [hi]
    · rw [List.getElem?_eq_none (by omega), List.getElem?_eq_none (by simp; omega)]
  conv => rhs; rw [h, List.count, List.countP_map]
  refine List.countP_congr fun x hx => ?_
  simp
theorem QI.cnt {id : Int × Int} {k : Nat} {p : List Int} {hs : List Bool} {q : AP} (h : QI id k p hs q) : cntW q.W = hs.count true := by
  rw [cntW_tight (n := hs.length) h.len fun j hj => by rw [h.bits, getD_out hj], ← count_range]
  exact cntr_congr h.bits _
theorem QI.whole {id : Int × Int} {k : Nat} {p : List Int} {hs : List Bool} {q : AP} (h : QI id k p hs q) (hk : 1 ≤ k) (hc : hs.count true = hs.length) (ha : p.length ≤ hs.length * k) : q.b = p := by
  have hall : ∀ b ∈ hs, b = true := fun b hb => by
    have := List.count_eq_length.1 hc b hb
    exact this.symm
  apply List.ext_getElem?
  intro t
  by_cases ht : t < p.length
  · have hi : t / k < hs.length := (Nat.div_lt_iff_lt_mul (by omega)).2 (by omega)
    refine h.dat (t / k) ?_ t (Nat.div_mul_le_self t k) (by rw [Nat.mul_comm]; exact Nat.lt_mul_div_succ t (by omega))
    rw [List.getD_eq_getElem?_getD, List.getElem?_eq_getElem hi]
    exact hall _ (List.getElem_mem hi)
  · rw [List.getElem?_eq_none (by rw [h.blen]; omega), List.getElem?_eq_none (by omega)]
theorem splice_at {b d : List Int} {off : Nat} (h : off + d.length ≤ b.length) (t : Nat) : (splice b d off)[t]? = if t < off then b[t]? else if t - off < d.length then d[t - off]? else b[t]? := by
  rw [splice, three_at, List.length_take, Nat.min_eq_left (by omega)]
  by_cases h1 : t < off
  · rw [if_pos h1, if_pos h1, List.getElem?_take, if_pos h1]
  · rw [if_neg h1, if_neg h1]
    by_cases h2 : t - off < d.length
    · rw [if_pos h2, if_pos h2]
    · rw [if_neg h2, if_neg h2, List.getElem?_drop, show off + d.length + (t - off - d.length) = t by omega]
theorem QI.fill {id : Int × Int} {k : Nat} {p : List Int} {hs : List Bool} {q : AP} (h : QI id k p hs q) (hk : 1 ≤ k) {i : Nat} (hi : i < hs.length) (hle : i * k ≤ p.length) : QI id k p (hs.set i true) (q.fill (i : Int) (i * k) (cutAt p k i)) := by
  have hcl := cutAt_len p k i
  refine ⟨h.id, by rw [List.length_set]; exact h.n, ?_, ?_, fun j => ?_, fun j hj t h1 h2 => ?_⟩
  · show (put1 q.n (q.W, 0) i).1.length = _
    rw [put1_len, List.length_set]
    exact h.len
  · show (splice q.b _ _).length = _
    rw [splice_len (by rw [h.blen]; omega)]
    exact h.blen
  · show bitW (put1 q.n (q.W, 0) i).1 j = _
    rw [put1_bit (by rw [h.n]; exact h.len), h.bits, h.n]
    rw [List.getD_eq_getElem?_getD, List.getD_eq_getElem?_getD, List.getElem?_set]
    by_cases e : i = j
    · subst e
      rw [if_pos rfl, if_pos hi]
      simp [hi]
    · rw [if_neg e]
      have : decide ((j : Int) = (i : Int)) = false := decide_eq_false (by omega)
      rw [this, Bool.and_false, Bool.or_false]
  · show (splice q.b _ _)[t]? = _
    rw [splice_at (by rw [h.blen]; omega)]
    rw [List.getD_eq_getElem?_getD, List.getElem?_set] at hj
    by_cases h3 : t < i * k
    · rw [if_pos h3]
      by_cases e : i = j
      · subst e; omega
      · rw [if_neg e] at hj
        exact h.dat j (by rw [List.getD_eq_getElem?_getD]; exact hj) t h1 h2
    · rw [if_neg h3]
      by_cases h4 : t - i * k < (cutAt p k i).length
      · rw [if_pos h4, cutAt, List.getElem?_take, if_pos (by omega), List.getElem?_drop, show i * k + (t - i * k) = t by omega]
      · rw [if_neg h4]
        by_cases e : i = j
        · subst e
          rw [Nat.succ_mul] at h2
          rw [List.getElem?_eq_none (by rw [h.blen]; omega), List.getElem?_eq_none (by omega)]
        · rw [if_neg e] at hj
          exact h.dat j (by rw [List.getD_eq_getElem?_getD]; exact hj) t h1 h2
theorem QI.new {id : Int × Int} {k : Nat} {p : List Int} {n : Nat} {f : Frm} (hid : f.id = id) (hof : f.of = (n : Int)) (hn : n ≤ 1048576) (hsz : f.size = (p.length : Int)) : QI id k p (List.replicate n false) (AP.new f) := by
  have hm : (max 0 (min f.of 1048576)).toNat = n := by omega
  have hz : ∀ i, (List.replicate n false).getD i false = false := fun i => by
    rw [List.getD_eq_getElem?_getD, List.getElem?_replicate]; split <;> rfl
  refine ⟨hid, by rw [List.length_replicate]; exact hm, ?_, ?_, fun i => ?_, fun i hi => ?_⟩
  · show (newW f.of).length = _
    rw [newW, List.length_replicate, List.length_replicate, hm]
  · show (List.replicate f.size.toNat (0 : Int)).length = _
    rw [List.length_replicate]; omega
  · rw [hz]; exact zero_bit _ _
  · rw [hz] at hi; cases hi

/-- What there is of one payload. -/
structure WI (id : Int × Int) (k : Nat) (p : List Int) (hs : List Bool) (g : AG) : Prop where
  chunk : g.chunk = (k : Int)
  most : g.most = 300
  room : g.room = 300
  parts : (hs = List.replicate hs.length false ∧ g.L = []) ∨ ∃ q, g.L = [q] ∧ QI id k p hs q
theorem layA_one {id : Int × Int} {k : Nat} {p : List Int} {hs : List Bool} {g : AG} {q : AP} {f : Frm} {i : Nat} (hq : QI id k p hs q) (hL : g.L = [q]) (hk : 1 ≤ k) (hc : g.chunk = (k : Int)) (hm : g.most = 300) (hr : g.room = 300) (hi : i < hs.length) (hle : i * k ≤ p.length) (ha : p.length ≤ hs.length * k) (hf : f.at_ = (i : Int)) :
    if (hs.set i true).count true = hs.length then (layA g 0 f (cutAt p k i)).2 = (p, 5) ∧ (layA g 0 f (cutAt p k i)).1.L = [] else (layA g 0 f (cutAt p k i)).2 = ([], 4) ∧ WI id k p (hs.set i true) (layA g 0 f (cutAt p k i)).1 := by
  have h1 := hq.fill hk hi hle
  have ho : (f.at_ * g.chunk).toNat = i * k := by rw [hf, hc, ← Int.natCast_mul]; rfl
  have h2 := h1.cnt
  have h3 := h1.n
  rw [List.length_set] at h3
  unfold layA
  rw [hL, hf] at *
  simp only [List.getElem?_cons_zero, ho, h2, h3]
  split
  · rename_i hc
    exact ⟨by rw [h1.whole hk (by rw [List.length_set]; exact hc) (by rw [List.length_set]; exact ha)], rfl⟩
  · exact ⟨rfl, hc, hm, hr, .inr ⟨_, rfl, h1⟩⟩
theorem putA_one {id : Int × Int} {k : Nat} {p : List Int} {hs : List Bool} {g : AG} {f : Frm} {i : Nat} (h : WI id k p hs g) (hid : idOk id = true) (hk : 1 ≤ k ∧ k ≤ 65536) (hp : p.length ≤ 300) (hn : hs.length = countQ p.length k) (hi : i < hs.length) (hf : f.at_ = (i : Int)) (hfi : f.id = id) (hfo : f.of = (hs.length : Int)) (hfs : f.size = (p.length : Int)) :
    if hs.getD i false = true then (putA g f (cutAt p k i)).2 = ([], 2) ∧ WI id k p hs (putA g f (cutAt p k i)).1 else
    if (hs.set i true).count true = hs.length then (putA g f (cutAt p k i)).2 = (p, 5) ∧ (putA g f (cutAt p k i)).1.L = [] else (putA g f (cutAt p k i)).2 = ([], 4) ∧ WI id k p (hs.set i true) (putA g f (cutAt p k i)).1 := by
  have hcq := countQ_eq (sz := p.length) (by omega) hk.1 hk.2
  have hle := countQ_at hk.1 (show i < countQ p.length k by omega)
  have hall := countQ_all (sz := p.length) hk.1
  rw [← hn] at hall
  have hr : rightB f g.chunk g.most (cutAt p k i).length = true := by
    have hl : ((cutAt p k i).length : Int) = lengthN f.size g.chunk f.at_ := by
      unfold lengthN
      rw [hfs, h.chunk, hcq, hf, if_pos ⟨by omega, by omega⟩, cutAt_len, ← Int.natCast_mul]
      omega
    unfold rightB
    rw [← hl, hfs, h.chunk, hcq, hfo, hf, h.most]
    simp only [Bool.and_eq_true, decide_eq_true_eq]
    refine ⟨by omega, by omega, by omega, by omega, trivial⟩
  have hok : (idOk f.id && rightB f g.chunk g.most (cutAt p k i).length) = true := by rw [hr, hfi, hid]; rfl
  unfold putA
  simp only [hok, Bool.true_eq_false, if_false]
  rcases h.parts with ⟨h1, h2⟩ | ⟨q, h1, h2⟩
  · have hz : hs.getD i false = false := by rw [h1, List.getD_eq_getElem?_getD, List.getElem?_replicate]; split <;> rfl
    rw [hz, h2]
    have h0 : ([] : List AP)[findA f.id []]? = none := rfl
    rw [h0]
    simp only
    have hno : ¬ (((usedA [] : Nat) : Int) > g.room - f.size ∧ g.wanted ≠ f.id) := by rw [h.room, hfs]; simp [usedA]; omega
    simp only [if_neg hno]
    rw [if_neg (by simp)]
    have hqn : QI id k p hs (AP.new f) := by rw [h1]; exact QI.new hfi hfo (by have := countQ_le (sz := p.length) hk.1; omega) hfs
    have := layA_one (g := { g with L := (cutA (g.room - f.size) [] g.counts).1 ++ [AP.new f], counts := (cutA (g.room - f.size) [] g.counts).2 }) hqn rfl hk.1 h.chunk h.most h.room hi hle hall hf
    exact this
  · have h3 : findA f.id [q] = 0 := by rw [findA, if_pos (h2.id.trans hfi.symm)]
    have hne : ¬ ((q.b.length : Nat) : Int) ≠ f.size := by rw [h2.blen, hfs]; simp
    rw [h1, h3]
    simp only [List.getElem?_cons_zero, if_neg hne]
    rw [h2.n, h2.bits, hf, decide_eq_true (show (i : Int) < (hs.length : Int) by omega), Bool.true_and, Int.toNat_natCast]
    split
    · exact ⟨rfl, h.chunk, h.most, h.room, .inr ⟨q, rfl, h2⟩⟩
    · exact layA_one h2 h1 hk.1 h.chunk h.most h.room hi hle hall hf
end Go.Proofs.YtmkdpenpfkmfpaaDoor.Sim
