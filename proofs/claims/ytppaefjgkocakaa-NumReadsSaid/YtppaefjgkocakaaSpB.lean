/- Seat 01: rows of rows; the document's bytes. No condition. -/
import Derived.Test.YtppaefjgkocakaaSpA
namespace Go.Proofs.Ytppaefjgkocakaa.Sim
set_option linter.unusedSimpArgs false
set_option linter.unusedVariables false

/-- A slice of slices of bytes. -/
def hd (h : AV) : List AV := [h]
theorem hd_len (h : AV) : (hd h).length = 1 := rfl
def Each (s : Store) (hs : List AV) (rows : List (List Int)) : Prop := hs.length = rows.length ∧ ∀ (i : Nat) h r, hs[i]? = some h → rows[i]? = some r → IsV s h .u8 r
def IsVV (s : Store) (v : AV) (rows : List (List Int)) : Prop := ∃ hs, IsL hd 1 s v hs ∧ Each s hs rows
theorem Each.ext {s s' : Store} {hs : List AV} {rows : List (List Int)} (h : Each s hs rows) (e : Ext s s') : Each s' hs rows := ⟨h.1, fun i a r h1 h2 => (h.2 i a r h1 h2).ext e⟩
theorem IsVV.ext {s s' : Store} {v : AV} {rows : List (List Int)} (h : IsVV s v rows) (e : Ext s s') : IsVV s' v rows := by
  obtain ⟨hs, h1, h2⟩ := h
  exact ⟨hs, h1.ext e, h2.ext e⟩
theorem lenVV {s : Store} {v : AV} {rows : List (List Int)} (h : IsVV s v rows) {α : Type} (f : AV → Option α) : aLen v f = f (.int .i64 rows.length) := by
  obtain ⟨hs, h1, h2, _⟩ := h
  rw [lenL h1, h2]
theorem atVV {s0 : Store} {v : AV} {rows : List (List Int)} (h : IsVV s0 v rows) {i : Nat} (hi : i < rows.length) : ∃ p hh, (∀ {α : Type} (kk : IntKind) (f : AV → Option α), aIndexSl 1 v (.int kk (i : Int)) f = f p) ∧ (∀ {s : Store}, Ext s0 s → ∀ {α : Type} (f : AV → Option α), aLoad1 p s f = f hh) ∧ IsV s0 hh .u8 rows[i] := by
  obtain ⟨hs, h1, h2, h3⟩ := h
  have hih : i < hs.length := by omega
  rcases h1 with ⟨_, rfl⟩ | ⟨id, ro, rfl, hid, hg⟩
  · simp at hih
  · exact ⟨_, hs[i], fun kk f => idxL hih f, fun e => fun f => fldL (j := 0) hd_len ((e.get id hid).trans hg) hih rfl f, h3 i _ _ (List.getElem?_eq_getElem hih) (List.getElem?_eq_getElem hi)⟩
theorem Ext.lo' {s0 s s' : Store} (e : Ext s0 s) (k : ExtLo s0.next s s') : Ext s0 s' := ⟨Nat.le_trans e.next k.next, fun l hl => (k.get l hl).trans (e.get l hl)⟩

def rowB (r : List Int) : List Int := numB r.length ++ r
def rowsB (rows : List (List Int)) : List Int := (rows.map rowB).flatten
theorem rowsB_cons (r : List Int) (rows : List (List Int)) : rowsB (r :: rows) = rowB r ++ rowsB rows := rfl

theorem rows_loop (k : Nat) (hk : 200 ≤ k) (hk2 : k ≤ 100000) {s0 : Store} {lv : AV} {rows : List (List Int)} (hv : IsVV s0 lv rows) (hl : rows.length ≤ 60) (hr : ∀ r ∈ rows, r.length ≤ 300) : ∀ (n i : Nat) (s : Store) (v : AV) (xs : List Int), Ext s0 s → OwnV s v .u8 xs s0.next → xs.length + (rows.length - i) * 309 ≤ 90000 → i ≤ rows.length → rows.length - i < n →
    ∃ v' s', num_Rows.l0 (k + 3) n v lv (.int .i64 rows.length) (.int .i64 i) s = some (v', s') ∧ OwnV s' v' .u8 (xs ++ rowsB (rows.drop i)) s0.next ∧ Ext s0 s'
  | 0, i, _, _, _, _, _, _, hi, hn => by omega
  | n + 1, i, s, v, xs, e, ho, hb, hi, hn => by
    have hs : num_Rows.l0 (k + 3) (n + 1) = fun x5 x10 x11 x12 s => num_Rows.p4 (k + 3) (num_Rows.l0 (k + 3) n) x5 x10 x11 x12 s := rfl
    rw [hs]
    clear hs
    simp only
    unfold num_Rows.p4 num_Rows.p3
    rw [lss_i]
    by_cases h : i < rows.length
    · have hz : (i : Int) < (rows.length : Int) := by omega
      rw [decide_eq_true hz, if_t]
      unfold num_Rows.p2 num_Rows.p1
      have hw1 : IntKind.i64.wrap ((i : Int) + 1) = ((i + 1 : Nat) : Int) := by rw [w_i64 (by omega) (by omega)]; omega
      obtain ⟨p, hh, p1, p2, p3⟩ := atVV hv h
      have hrl := hr _ (List.getElem_mem h)
      obtain ⟨v1, s1, k1, k2, k3⟩ := put_run (n := (rows[i].length : Int)) ho e.next (by omega) (by omega) (by omega) k (by omega) hk2
      have e1 := e.lo' k3
      have hnl := numB_len (rows[i].length : Int)
      obtain ⟨v2, s2, j1, j2, j3, _⟩ := appV (bytes := 1) k2 e1.next (p3.ext e1) (by rw [List.length_append]; omega) (by omega)
      have e2 := e1.lo' j3
      rw [p1, p2 e, lenV p3, conv_i, w_u64 (by omega) (by omega), k1, bnd]
      simp only
      rw [j1, add_i, hw1]
      obtain ⟨v', s', g1, g2, g3⟩ := rows_loop k hk hk2 hv hl hr n (i + 1) s2 v2 (xs ++ numB (rows[i].length : Int) ++ rows[i]) e2 j2 (by simp only [List.length_append]; omega) (by omega) (by omega)
      refine ⟨v', s', g1, ?_, g3⟩
      rw [List.drop_eq_getElem_cons h, rowsB_cons, rowB, ← List.append_assoc, ← List.append_assoc]; exact g2
    · have hz : ¬ (i : Int) < (rows.length : Int) := by omega
      rw [decide_eq_false hz, if_f, List.drop_eq_nil_of_le (by omega)]
      exact ⟨v, s, rfl, by simpa [rowsB] using ho, e⟩

theorem rows_run {s : Store} {bv lv : AV} {b : List Int} {rows : List (List Int)} (hb : IsV s bv .u8 b) (hv : IsVV s lv rows) (hbl : b.length ≤ 60000) (hl : rows.length ≤ 60) (hr : ∀ r ∈ rows, r.length ≤ 300) (k : Nat) (hk : 1100 ≤ k) (hk2 : k ≤ 100000) :
    ∃ v' s', rn (k + 4) 18 [bv, lv] s = some (v', s') ∧ OwnV s' v' .u8 (b ++ rowsB rows) s.next ∧ Ext s s' := by
  rw [num_Rows.eq]
  unfold num_Rows.f num_Rows.p7 num_Rows.p6
  obtain ⟨v1, s1, k1, k2, k3⟩ := clone_u8 hb (by omega) (k + 2)
  have k1' : rn (k + 3) 24 [bv] s = some (v1, s1) := k1
  rw [k1', bnd]
  unfold num_Rows.p5
  simp only
  rw [lenVV hv]
  obtain ⟨v', s', j1, j2, j3⟩ := rows_loop k (by omega) hk2 hv hl hr (k + 3) 0 s1 v1 b k3 k2 (by omega) (by omega) (by omega)
  rw [Int.natCast_zero] at j1
  rw [List.drop_zero] at j2
  exact ⟨v', s', j1, j2, j3⟩

/-- The reference's Num. -/
theorem rnum_loop (k : Nat) {lo : Nat} : ∀ (n : Nat) (s : Store) (v : AV) (xs : List Int) (m : Int), OwnV s v .u8 xs lo → lo ≤ s.next → 0 ≤ m → m < 18446744073709551616 → xs.length + n ≤ 1000000 → wid m < n →
    ∃ v' s', unisonref01_Num.l0 k n (.int .u64 m) v s = unisonref01_Num.p0 k v' s' ∧ OwnV s' v' .u8 (xs ++ leI 8 m) lo ∧ ExtLo lo s s'
  | 0, s, v, xs, m, _, _, _, _, _, hn => by omega
  | n + 1, s, v, xs, m, ho, hlo, h0, h1, hb, hn => by
    have hs : unisonref01_Num.l0 k (n + 1) = fun x0 x3 s => unisonref01_Num.p2 k (unisonref01_Num.l0 k n) x0 x3 s := rfl
    rw [hs]
    clear hs
    simp only
    unfold unisonref01_Num.p2
    rw [gtr_i]
    by_cases hm : m = 0
    · subst hm
      rw [decide_eq_false (by omega), if_f]
      exact ⟨v, s, rfl, by simpa [leI] using ho, ExtLo.refl _ _⟩
    · have hw := wid_step (n := m) (by omega) h1
      rw [decide_eq_true (by omega), if_t]
      unfold unisonref01_Num.p1
      rw [rem_i h0 (by omega), conv_i, byte_of, build_1, show m % 256 % 256 = m % 256 by omega]
      obtain ⟨v1, s1, k1, k2, k3, _⟩ := app1V (bytes := 1) ho hlo (m % 256) (by omega) (by omega)
      rw [k1, quo_i h0 (by omega), w_u64 (by omega) (by omega)]
      have e8 := leI_8 (n := m) (by omega) h1
      obtain ⟨v', s', j1, j2, j3⟩ := rnum_loop k n s1 v1 (xs ++ [m % 256]) (m / 256) k2 (Nat.le_trans hlo k3.next) (by omega) (by omega) (by simp; omega) (by omega)
      refine ⟨v', s', j1, ?_, k3.trans j3⟩
      rw [e8, List.append_cons]; exact j2
theorem rnum_run {s : Store} {n : Int} (h0 : 0 ≤ n) (h1 : n < 18446744073709551616) (k : Nat) (hk : 20 ≤ k) (hk2 : k ≤ 100000) : ∃ v' s', rn (k + 1) 16 [.int .u64 n] s = some (v', s') ∧ OwnV s' v' .u8 (numB n) s.next ∧ Ext s s' := by
  rw [unisonref01_Num.eq]
  unfold unisonref01_Num.f unisonref01_Num.p4 unisonref01_Num.p3
  rw [build_0]
  have e0 := Ext.push s (.cells [] false)
  have o0 : OwnV (s.push (.cells [] false)) (.sl s.next 0 0 1 0) .u8 [] s.next := .inr ⟨s.next, rfl, Nat.le_refl _, Nat.lt_succ_self _, by rw [get_push, if_pos rfl]; rfl⟩
  have hw := leI_len 8 n
  have hwd : wid n = (leI 8 n).length := rfl
  obtain ⟨v1, s1, k1, k2, k3⟩ := rnum_loop k (lo := s.next) k _ _ [] n o0 e0.next h0 h1 (by simp; omega) (by omega)
  rw [List.nil_append] at k2
  have e1 := e0.lo' k3
  have hk2n := k2.is
  rw [k1]
  unfold unisonref01_Num.p0
  rw [lenV k2.is, conv_i, byte_of, build_1, show ((leI 8 n).length : Int) % 256 = ((leI 8 n).length : Int) by omega]
  have e2 := Ext.push s1 (.cells [.int .u8 ((leI 8 n).length : Int)] false)
  have o2 : OwnV (s1.push (.cells [.int .u8 ((leI 8 n).length : Int)] false)) (.sl s1.next 0 1 1 1) .u8 [((leI 8 n).length : Int)] s1.next := .inr ⟨s1.next, rfl, Nat.le_refl _, Nat.lt_succ_self _, by rw [get_push, if_pos rfl]; rfl⟩
  obtain ⟨v', s', j1, j2, j3, _⟩ := appV (bytes := 1) o2 e2.next (k2.is.ext e2) (by simp; omega) (by omega)
  rw [j1]
  have e3 : Ext s1 s' := ⟨Nat.le_trans e2.next j3.next, fun l hl => (j3.get l hl).trans (e2.get l hl)⟩
  exact ⟨v', s', rfl, j2.mono e1.next, e1.trans e3⟩
theorem rrow_run {s : Store} {bv : AV} {b : List Int} (hb : IsV s bv .u8 b) (hbl : b.length ≤ 10000) (k : Nat) (hk : 20 ≤ k) (hk2 : k ≤ 100000) : ∃ v' s', rn (k + 2) 17 [bv] s = some (v', s') ∧ OwnV s' v' .u8 (rowB b) s.next ∧ Ext s s' := by
  rw [unisonref01_Row.eq]
  unfold unisonref01_Row.f unisonref01_Row.p0
  obtain ⟨v1, s1, k1, k2, k3⟩ := rnum_run (s := s) (n := (b.length : Int)) (by omega) (by omega) k hk hk2
  rw [lenV hb, conv_i, w_u64 (by omega) (by omega), k1, bnd]
  have hnl := numB_len (b.length : Int)
  obtain ⟨v', s', j1, j2, j3, _⟩ := appV (bytes := 1) k2 k3.next (hb.ext k3) (by omega) (by omega)
  simp only
  rw [j1]
  exact ⟨v', s', rfl, j2, k3.lo' j3⟩

theorem join_loop (k : Nat) {s0 : Store} {lv : AV} {rows : List (List Int)} (hv : IsVV s0 lv rows) (hl : rows.length ≤ 100) (hr : ∀ r ∈ rows, r.length ≤ 400) : ∀ (n i : Nat) (s : Store) (v : AV) (xs : List Int), Ext s0 s → OwnV s v .u8 xs s0.next → xs.length + (rows.length - i) * 400 ≤ 90000 → i ≤ rows.length → rows.length - i < n →
    ∃ v' s', unisonref01_Join.l0 k n lv v (.int .i64 rows.length) (.int .i64 i) s = some (v', s') ∧ OwnV s' v' .u8 (xs ++ (rows.drop i).flatten) s0.next ∧ Ext s0 s'
  | 0, i, _, _, _, _, _, _, hi, hn => by omega
  | n + 1, i, s, v, xs, e, ho, hb, hi, hn => by
    have hs : unisonref01_Join.l0 k (n + 1) = fun x0 x3 x7 x8 s => unisonref01_Join.p4 k (unisonref01_Join.l0 k n) x0 x3 x7 x8 s := rfl
    rw [hs]
    clear hs
    simp only
    unfold unisonref01_Join.p4 unisonref01_Join.p3
    rw [lss_i]
    by_cases h : i < rows.length
    · have hz : (i : Int) < (rows.length : Int) := by omega
      rw [decide_eq_true hz, if_t]
      unfold unisonref01_Join.p2 unisonref01_Join.p1
      have hw1 : IntKind.i64.wrap ((i : Int) + 1) = ((i + 1 : Nat) : Int) := by rw [w_i64 (by omega) (by omega)]; omega
      obtain ⟨p, hh, p1, p2, p3⟩ := atVV hv h
      have hrl := hr _ (List.getElem_mem h)
      obtain ⟨v2, s2, j1, j2, j3, _⟩ := appV (bytes := 1) ho e.next (p3.ext e) (by omega) (by omega)
      have e2 := e.lo' j3
      rw [p1, p2 e, j1, add_i, hw1]
      obtain ⟨v', s', g1, g2, g3⟩ := join_loop k hv hl hr n (i + 1) s2 v2 (xs ++ rows[i]) e2 j2 (by simp only [List.length_append]; omega) (by omega) (by omega)
      refine ⟨v', s', g1, ?_, g3⟩
      rw [List.drop_eq_getElem_cons h, List.flatten_cons, ← List.append_assoc]; exact g2
    · have hz : ¬ (i : Int) < (rows.length : Int) := by omega
      rw [decide_eq_false hz, if_f, List.drop_eq_nil_of_le (by omega)]
      exact ⟨v, s, rfl, by simpa using ho, e⟩
theorem join_run {s : Store} {lv : AV} {rows : List (List Int)} (hv : IsVV s lv rows) (hl : rows.length ≤ 100) (hr : ∀ r ∈ rows, r.length ≤ 400) (k : Nat) (hk : 200 ≤ k) : ∃ v' s', rn (k + 1) 19 [lv] s = some (v', s') ∧ OwnV s' v' .u8 rows.flatten s.next ∧ Ext s s' := by
  rw [unisonref01_Join.eq]
  unfold unisonref01_Join.f unisonref01_Join.p7 unisonref01_Join.p6
  rw [build_0]
  have e0 := Ext.push s (.cells [] false)
  have o0 : OwnV (s.push (.cells [] false)) (.sl s.next 0 0 1 0) .u8 [] s.next := .inr ⟨s.next, rfl, Nat.le_refl _, Nat.lt_succ_self _, by rw [get_push, if_pos rfl]; rfl⟩
  unfold unisonref01_Join.p5
  rw [lenVV hv]
  obtain ⟨v', s', j1, j2, j3⟩ := join_loop k hv hl hr k 0 _ _ [] e0 o0 (by simp; omega) (by omega) (by omega)
  rw [Int.natCast_zero] at j1
  rw [List.drop_zero, List.nil_append] at j2
  exact ⟨v', s', j1, j2, j3⟩

/-- Too many rows, or a row that is too long. -/
def greatR (rows : List (List Int)) : Bool := decide (rows.length > 60) || rows.any fun r => decide (r.length > 300)
theorem great_loop (k : Nat) {s : Store} {lv : AV} {rows : List (List Int)} (hv : IsVV s lv rows) (hl : rows.length ≤ 60) : ∀ (n i : Nat), i ≤ rows.length → rows.length - i < n →
    unisonlaw01_great.l0 k n lv (.int .i64 i) s = some (.bool ((rows.drop i).any fun r => decide (r.length > 300)), s)
  | 0, i, hi, hn => by omega
  | n + 1, i, hi, hn => by
    have hs : unisonlaw01_great.l0 k (n + 1) = fun x0 x3 s => unisonlaw01_great.p3 k (unisonlaw01_great.l0 k n) x0 x3 s := rfl
    rw [hs]
    clear hs
    simp only
    unfold unisonlaw01_great.p3
    rw [lenVV hv, lss_i]
    by_cases h : i < rows.length
    · have hz : (i : Int) < (rows.length : Int) := by omega
      rw [decide_eq_true hz, if_t]
      unfold unisonlaw01_great.p2 unisonlaw01_great.p1
      have hw1 : IntKind.i64.wrap ((i : Int) + 1) = ((i + 1 : Nat) : Int) := by rw [w_i64 (by omega) (by omega)]; omega
      obtain ⟨p, hh, p1, p2, p3⟩ := atVV hv h
      rw [p1, p2 (Ext.refl s), lenV p3, gtr_i, List.drop_eq_getElem_cons h, List.any_cons]
      by_cases hc : rows[i].length > 300
      · rw [decide_eq_true (show (rows[i].length : Int) > 300 by omega), if_t, decide_eq_true hc]; rfl
      · rw [decide_eq_false (show ¬ (rows[i].length : Int) > 300 by omega), if_f, decide_eq_false hc, add_i, hw1, great_loop k hv hl n (i + 1) (by omega) (by omega)]; rfl
    · have hz : ¬ (i : Int) < (rows.length : Int) := by omega
      rw [decide_eq_false hz, if_f, List.drop_eq_nil_of_le (by omega)]
      rfl
theorem great_run {s : Store} {lv : AV} {rows : List (List Int)} (hv : IsVV s lv rows) (k : Nat) (hk : 100 ≤ k) : rn (k + 1) 15 [lv] s = some (.bool (greatR rows), s) := by
  rw [unisonlaw01_great.eq]
  unfold unisonlaw01_great.f unisonlaw01_great.p6 unisonlaw01_great.p5
  rw [lenVV hv, gtr_i]
  unfold greatR
  by_cases hc : rows.length > 60
  · rw [decide_eq_true (show (rows.length : Int) > 60 by omega), if_t, decide_eq_true hc]; rfl
  · rw [decide_eq_false (show ¬ (rows.length : Int) > 60 by omega), if_f, decide_eq_false hc]
    unfold unisonlaw01_great.p4
    have := great_loop k hv (by omega) k 0 (by omega) (by omega)
    rw [Int.natCast_zero] at this
    rw [this, List.drop_zero]; rfl
theorem great_not {rows : List (List Int)} (h : greatR rows = false) : rows.length ≤ 60 ∧ ∀ r ∈ rows, r.length ≤ 300 := by
  unfold greatR at h
  rw [Bool.or_eq_false_iff] at h
  have h1 := of_decide_eq_false h.1
  refine ⟨by omega, fun r hr => ?_⟩
  have := List.any_eq_false.1 h.2 r hr
  simpa using this

/-- Rows that come as an argument. -/
theorem put_rowsA : ∀ (l : List (Option (List Int))) (s : Store), (∀ o ∈ l, (shSlice (shInt .u8)).wf o) → ∃ rows, Each ((shSlice (shInt .u8)).putL l s).2 ((shSlice (shInt .u8)).putL l s).1 rows ∧ rows.length = l.length ∧ (∀ r ∈ rows, ∀ x ∈ r, 0 ≤ x ∧ x < 256) ∧ Ext s ((shSlice (shInt .u8)).putL l s).2
  | [], s, _ => ⟨[], ⟨rfl, fun i h r h1 => by simp [Sh.putL] at h1⟩, rfl, fun r h => by simp at h, Ext.refl _⟩
  | o :: l, s, hw => by
    obtain ⟨v, xs, p1, p2, p3, _, p5⟩ := put_num .u8 o s (hw o List.mem_cons_self)
    obtain ⟨rows, ⟨q1, q1'⟩, q2, q3, q4⟩ := put_rowsA l ((shSlice (shInt .u8)).put o s).2 (fun o ho => hw o (List.mem_cons_of_mem _ ho))
    have e1 : ((shSlice (shInt .u8)).putL (o :: l) s).1 = v :: ((shSlice (shInt .u8)).putL l ((shSlice (shInt .u8)).put o s).2).1 := by
      show ((shSlice (shInt .u8)).put o s).1 ++ _ = _
      rw [p1]; rfl
    have e2 : ((shSlice (shInt .u8)).putL (o :: l) s).2 = ((shSlice (shInt .u8)).putL l ((shSlice (shInt .u8)).put o s).2).2 := rfl
    rw [e1, e2]
    refine ⟨xs :: rows, ⟨by simp [q1], fun i h r h1 h2 => ?_⟩, by simp [q2], fun r hr => ?_, p5.trans q4⟩
    · cases i with
      | zero =>
        obtain rfl := Option.some.inj h1
        obtain rfl := Option.some.inj h2
        exact p2.ext q4
      | succ i => exact q1' i h r (by simpa using h1) (by simpa using h2)
    · rcases List.mem_cons.1 hr with rfl | hr
      · exact fun x hx => u8_of (p3 x hx)
      · exact q3 r hr
theorem flat_hd (l : List AV) : (l.map hd).flatten = l := by
  induction l with
  | nil => rfl
  | cons x l ih => rw [List.map_cons, List.flatten_cons, ih]; rfl
theorem put_rows (o : Option (List (Option (List Int)))) (s : Store) (hw : (shSlice (shSlice (shInt .u8))).wf o) : ∃ v rows, ((shSlice (shSlice (shInt .u8))).put o s).1 = [v] ∧ IsVV ((shSlice (shSlice (shInt .u8))).put o s).2 v rows ∧ (∀ r ∈ rows, ∀ x ∈ r, 0 ≤ x ∧ x < 256) ∧ Ext s ((shSlice (shSlice (shInt .u8))).put o s).2 := by
  cases o with
  | none => exact ⟨.nilsl, [], rfl, ⟨[], .inl ⟨rfl, rfl⟩, rfl, fun i h r h1 => by simp at h1⟩, fun r h => by simp at h, Ext.refl _⟩
  | some l =>
    obtain ⟨h1, h2⟩ := hw l rfl
    obtain ⟨rows, q1, q2, q3, q4⟩ := put_rowsA l s h2
    have hput : (shSlice (shSlice (shInt .u8))).put (some l) s = ([.sl ((shSlice (shInt .u8)).putL l s).2.next 0 l.length 1 (l.length * 1)], ((shSlice (shInt .u8)).putL l s).2.push (.cells ((shSlice (shInt .u8)).putL l s).1 true)) := rfl
    rw [hput]
    have e := Ext.push ((shSlice (shInt .u8)).putL l s).2 (.cells ((shSlice (shInt .u8)).putL l s).1 true)
    have hlen : ((shSlice (shInt .u8)).putL l s).1.length = l.length := q1.1.trans q2
    exact ⟨_, rows, rfl, ⟨((shSlice (shInt .u8)).putL l s).1, .inr ⟨((shSlice (shInt .u8)).putL l s).2.next, true, by rw [hlen], Nat.lt_succ_self _, by rw [get_push, if_pos rfl, flat_hd]⟩, q1.ext e⟩, q3, q4.trans e⟩
end Go.Proofs.Ytppaefjgkocakaa.Sim
