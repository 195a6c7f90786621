/- Layer 13: the document's gatherer, its small functions. No condition. -/
import Derived.Test.YtmkdpenpfkmfpaaDoorB13Pb
namespace Go.Proofs.YtmkdpenpfkmfpaaDoor.Sim
set_option linter.unusedSimpArgs false
set_option linter.unusedVariables false
variable {s s' : Store}

/-! ### slices of things: copies and cuts -/
theorem app_cells {id n es m bytes : Nat} {xs new : List AV} {y : AV} (h : s.get id = .cells xs false) (hx : xs.length = n * es) (hy : ∀ {α : Type} (f : Nat → List AV → Option α), aCellsOf es y s f = f m new) (hn : new.length = m * es) (he : 0 < es) (hb : (n + m) * bytes ≤ 140737488355328) (hb0 : 0 < bytes) :
    ∃ s', (∀ {α : Type} (f : AV → Store → Option α), aAppend es bytes (.sl id 0 n es (n * es)) y s f = f (.sl id 0 (n + m) es ((n + m) * es)) s') ∧ s'.get id = .cells (xs ++ new) false ∧ Fr1 id s s' ∧ s'.next = s.next := by
  by_cases h0 : m = 0
  · subst h0
    have : new = [] := List.length_eq_zero_iff.1 (by omega)
    subst this
    exact ⟨s, fun f => by simp [aAppend, hy, aOwn, h, hx], by simpa using h, Fr1.refl _ _, rfl⟩
  · refine ⟨s.set id (.cells (xs ++ new) false), fun f => ?_, by rw [get_set, if_pos rfl], Fr1.set _ _ _, rfl⟩
    simp only [aAppend, hy, aOwn, h, hx, if_true]
    rw [if_neg h0, if_pos ⟨by omega, hb, he, hb0⟩, Nat.add_mul]
section
variable {β : Type} {c : β → List AV} {es : Nat}
theorem cellsOfL (hc : ∀ x, (c x).length = es) {v : AV} {l : List β} (h : IsL c es s v l) {α : Type} (f : Nat → List AV → Option α) : aCellsOf es v s f = f l.length (l.map c).flatten := by
  rcases h with ⟨rfl, rfl⟩ | ⟨id, ro, rfl, h2, h3⟩
  · rfl
  · have hl := flatL_len hc l
    simp only [aCellsOf, aRow, h3, hl, if_true]
    rw [if_pos (by omega), List.drop_zero, List.take_of_length_le (by omega)]
theorem cut_hiL (hc : ∀ x, (c x).length = es) {v : AV} {l : List β} (h : IsL c es s v l) {i : Nat} (hi : i ≤ l.length) : ∃ v', (∀ {α : Type} (f : AV → Option α), aSliceSl es v none (some (.int .i64 (i : Int))) f = f v') ∧ ∀ {t : Store}, IsL c es t v l → ∀ {α : Type} (f : Nat → List AV → Option α), aCellsOf es v' t f = f i ((l.take i).map c).flatten := by
  rcases h with ⟨rfl, rfl⟩ | ⟨id, ro, rfl, h2, h3⟩
  · have h0 : i = 0 := by simpa using hi
    subst h0
    exact ⟨.nilsl, fun f => by simp [aSliceSl, aNum], fun {t} _ {α} f => rfl⟩
  · refine ⟨.sl id 0 i es (l.length * es), fun f => ?_, fun {t} ht {α} f => ?_⟩
    · simp only [aSliceSl, aNum]
      rw [if_pos ⟨trivial, by omega, by omega, by omega⟩]
      simp
    · rcases ht with ⟨q, _⟩ | ⟨id', ro', q, _, q3⟩
      · cases q
      · injection q with q1
        subst q1
        have hl := flatL_len hc l
        have hle : i * es ≤ l.length * es := Nat.mul_le_mul_right _ hi
        simp only [aCellsOf, aRow, q3, hl, if_true]
        rw [if_pos (by omega), List.drop_zero]
        congr 1
        have h5 : (l.map c).flatten = ((l.take i).map c).flatten ++ ((l.drop i).map c).flatten := by
          rw [← List.flatten_append, ← List.map_append, List.take_append_drop]
        have h6 := flatL_len hc (l.take i)
        rw [List.length_take, Nat.min_eq_left hi] at h6
        rw [h5, List.take_append_of_le_length (by omega), List.take_of_length_le (by omega)]
theorem cut_loL (hc : ∀ x, (c x).length = es) {v : AV} {l : List β} (h : IsL c es s v l) {i : Nat} (hi : i ≤ l.length) : ∃ v', (∀ {α : Type} (f : AV → Option α), aSliceSl es v (some (.int .i64 (i : Int))) none f = f v') ∧ ∀ {t : Store}, IsL c es t v l → ∀ {α : Type} (f : Nat → List AV → Option α), aCellsOf es v' t f = f (l.length - i) ((l.drop i).map c).flatten := by
  rcases h with ⟨rfl, rfl⟩ | ⟨id, ro, rfl, h2, h3⟩
  · have h0 : i = 0 := by simpa using hi
    subst h0
    exact ⟨.nilsl, fun f => by simp [aSliceSl, aNum], fun {t} _ {α} f => rfl⟩
  · refine ⟨.sl id (0 + i * es) (l.length - i) es (l.length * es), fun f => ?_, fun {t} ht {α} f => ?_⟩
    · simp only [aSliceSl, aNum]
      rw [if_pos ⟨trivial, by omega, by omega, by omega⟩]
      simp
    · rcases ht with ⟨q, _⟩ | ⟨id', ro', q, _, q3⟩
      · cases q
      · injection q with q1
        subst q1
        have hl := flatL_len hc l
        have hle : i * es + (l.length - i) * es = l.length * es := by rw [← Nat.add_mul]; congr 1; omega
        simp only [aCellsOf, aRow, q3, hl, if_true]
        rw [if_pos (by omega), Nat.zero_add]
        congr 1
        have h5 : (l.map c).flatten = ((l.take i).map c).flatten ++ ((l.drop i).map c).flatten := by
          rw [← List.flatten_append, ← List.map_append, List.take_append_drop]
        have h6 := flatL_len hc (l.take i)
        rw [List.length_take, Nat.min_eq_left hi] at h6
        have h7 := flatL_len hc (l.drop i)
        rw [List.length_drop] at h7
        rw [h5, List.drop_append_of_le_length (by omega), List.drop_eq_nil_of_le (by omega), List.nil_append, List.take_of_length_le (by omega)]
/-- append([]T{}, x..) of things. -/
theorem copyL {bytes : Nat} (hc : ∀ x, (c x).length = es) (he : 0 < es) {v : AV} {l : List β} (h : IsL c es s v l) (hb : l.length * bytes ≤ 140737488355328) (hb0 : 0 < bytes) :
    ∃ s', (∀ {α : Type} (f : AV → Store → Option α), aAppend es bytes (.sl s.next 0 0 es 0) v (s.push (.cells [] false)) f = f (.sl s.next 0 l.length es (l.length * es)) s') ∧ s'.get s.next = .cells (l.map c).flatten false ∧ s'.next = s.next + 1 ∧ Ext s s' := by
  have e := Ext.push s (.cells [] false)
  obtain ⟨s', a1, a2, a3, a4⟩ := app_cells (s := s.push (.cells [] false)) (id := s.next) (n := 0) (es := es) (m := l.length) (xs := []) (bytes := bytes) (by rw [get_push, if_pos rfl]) (by simp) (fun f => cellsOfL hc (h.ext e) f) (flatL_len hc l) he (by rw [Nat.zero_add]; exact hb) hb0
  have a1' : ∀ {α : Type} (f : AV → Store → Option α), aAppend es bytes (.sl s.next 0 0 es 0) v (s.push (.cells [] false)) f = f (.sl s.next 0 l.length es (l.length * es)) s' := fun f => by
    have := a1 f
    rw [Nat.zero_mul, Nat.zero_add] at this
    exact this
  exact ⟨s', a1', a2, a4, ⟨by rw [a4]; exact e.next, fun l hl => (a3.get l (Nat.lt_succ_of_lt hl) (by omega)).trans (e.get l hl)⟩⟩
end

/-! ### the document's parts -/
structure PE where
  q : AP
  hv : AV
  cv : AV
def pcl (e : PE) : List AV := [.int .u8 e.q.id.1, .int .u64 e.q.id.2, .int .i64 (e.q.b.length : Int), e.hv, e.cv]
theorem pcl_len (e : PE) : (pcl e).length = 5 := rfl
def bc (b : Bool) : List AV := [.bool b]
def sc (l : List Int) : List AV := [.str (strOf l)]
/-- Which chunks came, and these. -/
structure GoodR (chunk : Int) (q : AP) (hs : List Bool) (cs : List (List Int)) : Prop where
  hl : hs.length = q.n
  cl : cs.length = q.n
  bits : ∀ i, i < q.n → hs[i]? = some (bitW q.W i)
  dat : ∀ i, i < q.n → bitW q.W i = true → cs[i]? = some (cutAt q.b chunk.toNat i)
structure RE (s : Store) (chunk : Int) (e : PE) (hs : List Bool) (cs : List (List Int)) : Prop where
  h : IsL bc 1 s e.hv hs
  c : IsL sc 1 s e.cv cs
  good : GoodR chunk e.q hs cs
def mcells (a : AG) (lv : AV) : List AV := [.int .i64 a.chunk, .int .i64 a.most, .int .i64 a.room, lv, .int .u8 a.wanted.1, .int .u64 a.wanted.2] ++ a.counts.map (.int .i64)
theorem mcells_len {a : AG} {lv : AV} (h : a.counts.length = 6) : (mcells a lv).length = 12 := by simp [mcells, h]
structure RG (s : Store) (lv : AV) (a : AG) (L : List PE) : Prop where
  l : IsL pcl 5 s lv L
  eq : L.map PE.q = a.L
  each : ∀ e ∈ L, ∃ hs cs, RE s a.chunk e hs cs
  cnt : a.counts.length = 6
/-- Where the rows of the document's parts lie. -/
structure Off (Q : Nat → Prop) (lv : AV) (L : List PE) : Prop where
  l : ∀ i b c d g, lv = .sl i b c d g → Q i
  e : ∀ e ∈ L, (∀ i b c d g, e.hv = .sl i b c d g → Q i) ∧ ∀ i b c d g, e.cv = .sl i b c d g → Q i
theorem Off.mono {Q Q' : Nat → Prop} {lv : AV} {L : List PE} (h : Off Q lv L) (hq : ∀ i, Q i → Q' i) : Off Q' lv L := ⟨fun i b c d g q => hq i (h.l i b c d g q), fun e he => ⟨fun i b c d g q => hq i ((h.e e he).1 i b c d g q), fun i b c d g q => hq i ((h.e e he).2 i b c d g q)⟩⟩
theorem RE.ext {chunk : Int} {e : PE} {hs : List Bool} {cs : List (List Int)} (h : RE s chunk e hs cs) (x : Ext s s') : RE s' chunk e hs cs := ⟨h.h.ext x, h.c.ext x, h.good⟩
theorem RG.ext {lv : AV} {a : AG} {L : List PE} (h : RG s lv a L) (x : Ext s s') : RG s' lv a L := ⟨h.l.ext x, h.eq, fun e he => by
  obtain ⟨hs, cs, q⟩ := h.each e he
  exact ⟨hs, cs, q.ext x⟩, h.cnt⟩
theorem pl_at {lv : AV} {L : List PE} (h : IsL pcl 5 s lv L) {i : Nat} (hi : i < L.length) : ∃ id ep, (∀ {α : Type} (k : IntKind) (f : AV → Option α), aIndexSl 5 lv (.int k (i : Int)) f = f (.ptr id (0 + i * 5) ep)) ∧ (∀ {j : Nat} {v : AV}, (pcl L[i])[j]? = some v → ∀ {α : Type} (f : AV → Option α), aLoad1 (.ptr id (0 + i * 5 + j) ep) s f = f v) ∧ (∀ {α : Type} (f : AV → Option α), aLoadN 2 (.ptr id (0 + i * 5 + 0) ep) s f = f (.agg (idc L[i].q.id))) ∧ (∀ {α : Type} (f : AV → Option α), aLoadN 5 (.ptr id (0 + i * 5) ep) s f = f (.agg (pcl L[i]))) := by
  rcases h with ⟨_, rfl⟩ | ⟨id, ro, q1, _, hr⟩
  · simp at hi
  · subst q1
    refine ⟨id, L.length * 5, fun k f => idxL hi f, fun {j v} hv {α} f => fldL pcl_len hr hi hv f, fun f => ?_, fun f => loadL pcl_len hr i hi f⟩
    have hle : i * 5 + 5 ≤ L.length * 5 := by omega
    rw [load_n hr (flatL_len pcl_len L) (by omega)]
    have h5 : ((L.map pcl).flatten.drop (0 + i * 5 + 0)).take 2 = (pcl L[i]).take 2 := by
      rw [← flatL_get pcl_len L i hi, List.take_take, Nat.zero_add, Nat.add_zero]
      rfl
    rw [h5]
    rfl
theorem RG.len {lv : AV} {a : AG} {L : List PE} (h : RG s lv a L) : L.length = a.L.length := by rw [← h.eq, List.length_map]
theorem RG.get {lv : AV} {a : AG} {L : List PE} (h : RG s lv a L) {i : Nat} (hi : i < L.length) : a.L[i]? = some L[i].q := by rw [← h.eq, List.getElem?_map, List.getElem?_eq_getElem hi]; rfl
/-- The document's gatherer in a row: its fields. -/
theorem m_fld {x : Nat} {a : AG} {lv : AV} {ro : Bool} (h : s.get x = .cells (mcells a lv) ro) (hc : a.counts.length = 6) {j : Nat} {v : AV} (hv : (mcells a lv)[j]? = some v) {α : Type} (f : AV → Option α) : aLoad1 (.ptr x (0 + j) 12) s f = f v := g_ld h (mcells_len hc) (by rw [Nat.zero_add]; exact hv) f
theorem m_all {x : Nat} {a : AG} {lv : AV} {ro : Bool} (h : s.get x = .cells (mcells a lv) ro) (hc : a.counts.length = 6) {α : Type} (f : AV → Option α) : aLoadN 12 (.ptr x 0 12) s f = f (.agg (mcells a lv)) := by
  have hl := mcells_len (lv := lv) hc
  rw [load_n h hl (by omega), List.drop_zero, List.take_of_length_le (by omega)]

theorem used_bnd {L : List AP} (h : ∀ q ∈ L, q.b.length ≤ 1048576) : usedA L ≤ L.length * 1048576 := by
  induction L with
  | nil => simp [usedA]
  | cons q L ih =>
    have h1 := h q (by simp)
    have h2 := ih fun q hq => h q (by simp [hq])
    simp only [usedA, List.map_cons, List.sum_cons, List.length_cons] at h2 ⊢
    omega
theorem rused_loop {x : Nat} {lv : AV} {a : AG} {L : List PE} (h : RG s lv a L) (hx : s.get x = .cells (mcells a lv) false) (hL : L.length ≤ 1000000) (hb : ∀ q ∈ a.L, q.b.length ≤ 1048576) (k : Nat) : ∀ (m i : Nat), i ≤ L.length → L.length - i < m →
    unisonref13_G_Used.l0 k m (.ptr x 0 12) (.int .i64 (usedA (a.L.take i) : Nat)) (.int .i64 (L.length : Nat)) (.int .i64 (i : Int)) s = some (.int .i64 (usedA a.L : Nat), s)
  | 0, i, hi, hm => by omega
  | m + 1, i, hi, hm => by
    have hs : unisonref13_G_Used.l0 k (m + 1) = fun x1 x3 x7 x8 s => unisonref13_G_Used.p4 k (unisonref13_G_Used.l0 k m) x1 x3 x7 x8 s := rfl
    rw [hs]
    clear hs
    simp only
    unfold unisonref13_G_Used.p4 unisonref13_G_Used.p3 unisonref13_G_Used.p2 unisonref13_G_Used.p1 unisonref13_G_Used.p0
    by_cases hlt : i < L.length
    · obtain ⟨id, ep, a1, a2, a3, a4⟩ := pl_at h.l hlt
      have ldl := fun {α : Type} (f : AV → Option α) => m_fld hx h.cnt (j := 3) (v := lv) rfl f
      have ldz := fun {α : Type} (f : AV → Option α) => a2 (j := 2) (v := .int .i64 (L[i].q.b.length : Int)) rfl f
      have hg := h.get hlt
      have hla : i < a.L.length := by rw [← h.len]; exact hlt
      have htake : usedA (a.L.take (i + 1)) = usedA (a.L.take i) + L[i].q.b.length := by
        rw [List.take_succ_eq_append_getElem hla, usedA_app]
        rw [List.getElem?_eq_getElem hla] at hg
        rw [Option.some.inj hg]
        simp [usedA]
      have hbnd := used_bnd (L := a.L.take (i + 1)) fun q hq => hb q (List.mem_of_mem_take hq)
      rw [List.length_take] at hbnd
      have hle : min (i + 1) a.L.length * 1048576 ≤ 1000000 * 1048576 := Nat.mul_le_mul_right _ (by have := h.len; omega)
      have hw1 : IntKind.i64.wrap (((usedA (a.L.take i) : Nat) : Int) + ((L[i].q.b.length : Nat) : Int)) = ((usedA (a.L.take (i + 1)) : Nat) : Int) := by
        rw [w_i64 (by omega) (by omega)]; omega
      have hw : IntKind.i64.wrap ((i : Int) + 1) = ((i + 1 : Nat) : Int) := by rw [w_i64 (by omega) (by omega)]; omega
      simp only [bnd, guard_tt, guard_ff, guard_tf, guard_ft, pick_t, pick_f, if_t, if_f, add_i, sub_i, lss_i, leq_i, gtr_i, geq_i, eql_i, neq_i, min_i, max_i, conv_i, len_sl, len_nil, not_b, cells_agg, new_s, fld_p, nil_p, decide_eq_true (show (i : Int) < ((L.length : Nat) : Int) by omega), ldl, a1, ldz, hw1, hw]
      exact rused_loop h hx hL hb k m (i + 1) (by omega) (by omega)
    · simp only [bnd, guard_tt, guard_ff, guard_tf, guard_ft, pick_t, pick_f, if_t, if_f, add_i, sub_i, lss_i, leq_i, gtr_i, geq_i, eql_i, neq_i, min_i, max_i, conv_i, len_sl, len_nil, not_b, cells_agg, new_s, fld_p, nil_p, decide_eq_false (show ¬ (i : Int) < ((L.length : Nat) : Int) by omega)]
      rw [List.take_of_length_le (by have := h.len; omega)]
theorem rused_run {lv : AV} {a : AG} {L : List PE} (h : RG s lv a L) (hL : L.length ≤ 1000000) (hb : ∀ q ∈ a.L, q.b.length ≤ 1048576) (k : Nat) (hk : L.length < k) : ∃ s', rn (k + 1) 15 [.agg (mcells a lv)] s = some (.int .i64 (usedA a.L : Nat), s') ∧ Ext s s' := by
  rw [unisonref13_G_Used.eq]
  unfold unisonref13_G_Used.f unisonref13_G_Used.p7 unisonref13_G_Used.p6 unisonref13_G_Used.p5
  have e := Ext.push s (.cells (mcells a lv) false)
  have hx : (s.push (.cells (mcells a lv) false)).get s.next = .cells (mcells a lv) false := by rw [get_push, if_pos rfl]
  have ldl := fun {α : Type} (f : AV → Option α) => m_fld hx h.cnt (j := 3) (v := lv) rfl f
  simp only [cells_agg, new_s, mcells_len h.cnt, bnd, guard_tt, guard_ff, guard_tf, guard_ft, pick_t, pick_f, if_t, if_f, add_i, sub_i, lss_i, leq_i, gtr_i, geq_i, eql_i, neq_i, min_i, max_i, conv_i, len_sl, len_nil, not_b, cells_agg, new_s, fld_p, nil_p, ldl]
  rw [lenL h.l]
  have := rused_loop (h.ext e) hx hL hb k k 0 (Nat.zero_le _) (by omega)
  exact ⟨_, this, e⟩

theorem rfind_loop {x y : Nat} {lv : AV} {a : AG} {L : List PE} {w : Int × Int} (h : RG s lv a L) (hx : s.get x = .cells (mcells a lv) false) (hy : s.get y = .cells (idc w) false) (hL : L.length ≤ 1000000) (k : Nat) : ∀ (m i : Nat), i ≤ L.length → L.length - i < m →
    unisonref13_G_find.l0 k m (.ptr x 0 12) (.ptr y 0 2) (.int .i64 (L.length : Nat)) (.int .i64 (i : Int)) s = some (.int .i64 (if findA w (a.L.drop i) < (a.L.drop i).length then ((i + findA w (a.L.drop i) : Nat) : Int) else -1), s)
  | 0, i, hi, hm => by omega
  | m + 1, i, hi, hm => by
    have hs : unisonref13_G_find.l0 k (m + 1) = fun x2 x3 x8 x9 s => unisonref13_G_find.p6 k (unisonref13_G_find.l0 k m) x2 x3 x8 x9 s := rfl
    rw [hs]
    clear hs
    simp only
    unfold unisonref13_G_find.p6 unisonref13_G_find.p5 unisonref13_G_find.p4 unisonref13_G_find.p3 unisonref13_G_find.p2 unisonref13_G_find.p1 unisonref13_G_find.p0
    by_cases hlt : i < L.length
    · obtain ⟨id, ep, a1, a2, a3, a4⟩ := pl_at h.l hlt
      have ldl := fun {α : Type} (f : AV → Option α) => m_fld hx h.cnt (j := 3) (v := lv) rfl f
      have ldw : ∀ {α : Type} (f : AV → Option α), aLoadN 2 (.ptr y 0 2) s f = f (.agg (idc w)) := fun f => load_n hy rfl (by show 0 + 2 ≤ 2; decide)
      have hla : i < a.L.length := by rw [← h.len]; exact hlt
      have hg := h.get hlt
      rw [List.getElem?_eq_getElem hla] at hg
      have hd : a.L.drop i = L[i].q :: a.L.drop (i + 1) := by rw [List.drop_eq_getElem_cons hla, Option.some.inj hg]
      have hw : IntKind.i64.wrap ((i : Int) + 1) = ((i + 1 : Nat) : Int) := by rw [w_i64 (by omega) (by omega)]; omega
      have heq : ∀ {α : Type} (f : Bool → Option α), aEq (.struct [.int, .int]) (.agg (idc L[i].q.id)) (.agg (idc w)) f = f (decide (L[i].q.id = w)) := fun f => eq_id _ _ f
      simp only [bnd, guard_tt, guard_ff, guard_tf, guard_ft, pick_t, pick_f, if_t, if_f, add_i, sub_i, lss_i, leq_i, gtr_i, geq_i, eql_i, neq_i, min_i, max_i, conv_i, len_sl, len_nil, not_b, cells_agg, new_s, fld_p, nil_p, decide_eq_true (show (i : Int) < ((L.length : Nat) : Int) by omega), ldl, a1, a3, ldw, heq, hd, findA]
      by_cases he : L[i].q.id = w
      · simp only [decide_eq_true he, bnd, guard_tt, guard_ff, guard_tf, guard_ft, pick_t, pick_f, if_t, if_f, add_i, sub_i, lss_i, leq_i, gtr_i, geq_i, eql_i, neq_i, min_i, max_i, conv_i, len_sl, len_nil, not_b, cells_agg, new_s, fld_p, nil_p, if_pos he]
        rw [if_pos (by simp)]
        rfl
      · simp only [decide_eq_false he, bnd, guard_tt, guard_ff, guard_tf, guard_ft, pick_t, pick_f, if_t, if_f, add_i, sub_i, lss_i, leq_i, gtr_i, geq_i, eql_i, neq_i, min_i, max_i, conv_i, len_sl, len_nil, not_b, cells_agg, new_s, fld_p, nil_p, if_neg he, hw]
        rw [rfind_loop h hx hy hL k m (i + 1) (by omega) (by omega)]
        congr 3
        have hlc : (L[i].q :: a.L.drop (i + 1)).length = (a.L.drop (i + 1)).length + 1 := rfl
        rw [hlc]
        split
        · rw [if_pos (by omega)]; omega
        · rw [if_neg (by omega)]
    · simp only [bnd, guard_tt, guard_ff, guard_tf, guard_ft, pick_t, pick_f, if_t, if_f, add_i, sub_i, lss_i, leq_i, gtr_i, geq_i, eql_i, neq_i, min_i, max_i, conv_i, len_sl, len_nil, not_b, cells_agg, new_s, fld_p, nil_p, decide_eq_false (show ¬ (i : Int) < ((L.length : Nat) : Int) by omega)]
      rw [List.drop_eq_nil_of_le (by have := h.len; omega)]
      rfl
theorem rfind_run {lv : AV} {a : AG} {L : List PE} (h : RG s lv a L) (hL : L.length ≤ 1000000) (w : Int × Int) (k : Nat) (hk : L.length < k) : ∃ s', rn (k + 1) 26 [.agg (mcells a lv), .agg (idc w)] s = some (.int .i64 (if findA w a.L < a.L.length then ((findA w a.L : Nat) : Int) else -1), s') ∧ Ext s s' := by
  rw [unisonref13_G_find.eq]
  unfold unisonref13_G_find.f unisonref13_G_find.p8 unisonref13_G_find.p7
  have e1 := Ext.push s (.cells (mcells a lv) false)
  have hx1 : (s.push (.cells (mcells a lv) false)).get s.next = .cells (mcells a lv) false := by rw [get_push, if_pos rfl]
  have hn1 : s.next < (s.push (.cells (mcells a lv) false)).next := Nat.lt_succ_self _
  simp only [cells_agg, new_s, mcells_len h.cnt]
  generalize s.push (.cells (mcells a lv) false) = s1 at e1 hx1 hn1 ⊢
  have e2 := Ext.push s1 (.cells (idc w) false)
  have hy : (s1.push (.cells (idc w) false)).get s1.next = .cells (idc w) false := by rw [get_push, if_pos rfl]
  have hx2 := (e2.get _ hn1).trans hx1
  have hl2 : (idc w).length = 2 := rfl
  have ldl := fun {α : Type} (f : AV → Option α) => m_fld hx2 h.cnt (j := 3) (v := lv) rfl f
  simp only [hl2, bnd, guard_tt, guard_ff, guard_tf, guard_ft, pick_t, pick_f, if_t, if_f, add_i, sub_i, lss_i, leq_i, gtr_i, geq_i, eql_i, neq_i, min_i, max_i, conv_i, len_sl, len_nil, not_b, cells_agg, new_s, fld_p, nil_p, ldl]
  rw [lenL h.l]
  have := rfind_loop (h.ext (e1.trans e2)) hx2 hy hL k k 0 (Nat.zero_le _) (by omega)
  rw [List.drop_zero, Nat.zero_add] at this
  exact ⟨_, this, e1.trans e2⟩
end Go.Proofs.YtmkdpenpfkmfpaaDoor.Sim
