/- The texts BRow, B01A, B01B, B01C, B01D, B01E, B01F, B01G, B01H, B01I, B01J, one behind the other. No condition. -/
import Derived.Test.YtkfdgegmahbkiaaFunB
import Derived.Test.YtkfdgegmahbkiaaSimW
import Derived.Test.YtkfdgegmahbkiaaSimQ
namespace Go.Proofs.Ytkfdgegmahbkiaa.Sim
set_option linter.unusedSimpArgs false
set_option linter.unusedVariables false
variable {s : Store}
theorem rputAll_full : ∀ (vs cs pre : List AV), vs.length = cs.length → putAll (pre ++ cs) pre.length vs = pre ++ vs
  | [], cs, pre, h => by
    have : cs = [] := List.length_eq_zero_iff.1 h.symm
    rw [this]; rfl
  | v :: vs, [], pre, h => by simp at h
  | v :: vs, c :: cs, pre, h => by
    have := rputAll_full vs cs (pre ++ [v]) (by simpa using h)
    simp only [putAll]
    rw [List.set_append_right _ _ (Nat.le_refl _), Nat.sub_self, List.set_cons_zero]
    simpa using this
theorem rst_all {id n : Nat} {cs vs : List AV} (h : s.get id = .cells cs false) (hc : cs.length = n) (hv : vs.length = n) {α : Type} (f : Store → Option α) : aStore n (.ptr id 0 n) (.agg vs) s f = f (s.set id (.cells vs false)) := by
  have := rputAll_full vs cs [] (by omega)
  simp only [List.nil_append, List.length_nil] at this
  simp only [aStore, aCells, aOwn, h, hc, if_true]
  rw [if_pos (by omega), this]
theorem rld_all {id n : Nat} {cs : List AV} {ro : Bool} (h : s.get id = .cells cs ro) (hc : cs.length = n) {α : Type} (f : AV → Option α) : aLoadN n (.ptr id 0 n) s f = f (.agg cs) := by
  rw [load_n (off := 0) (ep := n) (n := n) h hc (by omega), List.drop_zero, List.take_of_length_le (by omega)]
/-- A new row that is filled at once. -/
theorem new_all {n : Nat} {zs vs : List AV} (hz : zs.length = n) (hv : vs.length = n) {α : Type} (f : AV → Store → Option α) : (aNew zs s fun p t => aStore n p (.agg vs) t fun u => f p u) = f (.ptr s.next 0 n) (s.push (.cells vs false)) := by
  simp only [aNew, hz]
  rw [rst_all (s := s.push (.cells zs false)) (cs := zs) (by rw [get_push, if_pos rfl]) hz hv]
  congr 1
  unfold Store.set Store.push
  simp only
  congr 1
  funext j
  split <;> rfl
end Go.Proofs.Ytkfdgegmahbkiaa.Sim
namespace Go.Proofs.Ytkfdgegmahbkiaa.Sim
set_option linter.unusedSimpArgs false
set_option linter.unusedVariables false

/-- The last bytes first, of a number below 256^f. -/
def leI : Nat → Int → List Int
  | 0, _ => []
  | f + 1, n => if n = 0 then [] else (n % 256) :: leI f (n / 256)
def numB (n : Int) : List Int := ((leI 8 n).length : Int) :: leI 8 n
theorem leI_len : ∀ (f : Nat) (n : Int), (leI f n).length ≤ f
  | 0, _ => Nat.le_refl _
  | f + 1, n => by
    unfold leI
    split
    · simp
    · have := leI_len f (n / 256); simp; omega
theorem leI_u8 : ∀ (f : Nat) (n : Int), ∀ x ∈ leI f n, 0 ≤ x ∧ x < 256
  | 0, _, x, h => by simp [leI] at h
  | f + 1, n, x, h => by
    unfold leI at h
    split at h
    · simp at h
    · rcases List.mem_cons.1 h with rfl | h
      · omega
      · exact leI_u8 f _ x h
theorem numB_u8 (n : Int) : ∀ x ∈ numB n, 0 ≤ x ∧ x < 256 := fun x h => by
  rcases List.mem_cons.1 h with rfl | h
  · have := leI_len 8 n; omega
  · exact leI_u8 8 n x h
theorem numB_len (n : Int) : (numB n).length ≤ 9 := by have := leI_len 8 n; simp [numB]; omega
theorem leI_succ (f : Nat) (n : Int) : leI (f + 1) n = if n = 0 then [] else (n % 256) :: leI f (n / 256) := rfl
theorem leI_stay : ∀ (f : Nat) (n : Int), 0 ≤ n → n < 256 ^ f → leI (f + 1) n = leI f n
  | 0, n, h0, h1 => by
    have : n = 0 := by simp at h1; omega
    subst this; rfl
  | f + 1, n, h0, h1 => by
    rw [leI_succ (f + 1) n, leI_succ f n]
    split
    · rfl
    · rw [leI_stay f (n / 256) (by omega) (by rw [Int.pow_succ] at h1; omega)]
theorem leI_8 {n : Int} (h0 : 0 < n) (h1 : n < 18446744073709551616) : leI 8 n = (n % 256) :: leI 8 (n / 256) := by
  have e : (256 : Int) ^ 7 = 72057594037927936 := rfl
  rw [leI_succ 7, if_neg (by omega), leI_stay 7 (n / 256) (by omega) (by rw [e]; omega)]
/-- How many bytes a number has. -/
def wid (n : Int) : Nat := (leI 8 n).length
theorem wid_step {n : Int} (h0 : 0 < n) (h1 : n < 18446744073709551616) : wid n = wid (n / 256) + 1 := by
  unfold wid
  rw [leI_8 h0 h1, List.length_cons]
theorem quo_i {k : IntKind} {a b : Int} (ha : 0 ≤ a) (hb : b ≠ 0) {α : Type} (f : AV → Option α) : aBin .quo (.int k a) (.int k b) f = f (.int k (k.wrap (a / b))) := by
  simp only [aBin, intBin, if_true, if_neg hb, Int.tdiv_eq_ediv_of_nonneg ha]
theorem rem_i {k : IntKind} {a b : Int} (ha : 0 ≤ a) (hb : b ≠ 0) {α : Type} (f : AV → Option α) : aBin .rem (.int k a) (.int k b) f = f (.int k (a % b)) := by
  simp only [aBin, intBin, if_true, if_neg hb, Int.tmod_eq_emod_of_nonneg ha]
theorem byte_of {a : Int} : IntKind.u8.wrap a = a % 256 := by simp [IntKind.wrap, IntKind.bits, IntKind.signed]

theorem clone_u8 {s : Store} {v : AV} {xs : List Int} (h : IsV s v .u8 xs) (hb : xs.length ≤ 1000000) (k : Nat) : ∃ v' s', rn (k + 1) 45 [v] s = some (v', s') ∧ OwnV s' v' .u8 xs s.next ∧ Ext s s' := by
  rw [F45.eq]
  unfold F45.f F45.p0
  obtain ⟨s1, k1, k2, k3, k4⟩ := copyV (bytes := 1) h (by omega) (by omega)
  rcases h with ⟨rfl, rfl⟩ | ⟨l, off, ys, ro, rfl, h2, h3⟩
  · exact ⟨.nilsl, s, rfl, .inl ⟨rfl, rfl⟩, Ext.refl _⟩
  · simp only [aEq, bnd, guard_tt, guard_ff, guard_tf, guard_ft, pick_t, pick_f, if_t, if_f, add_i, sub_i, lss_i, leq_i, gtr_i, geq_i, eql_i, neq_i, min_i, max_i, conv_i, len_sl, len_nil, not_b, cells_agg, new_s, fld_p, nil_p]
    rw [build_0, k1]
    exact ⟨_, s1, rfl, .inr ⟨s.next, rfl, Nat.le_refl _, k3, k2⟩, k4⟩

end Go.Proofs.Ytkfdgegmahbkiaa.Sim
namespace Go.Proofs.Ytkfdgegmahbkiaa.Sim
set_option linter.unusedSimpArgs false
set_option linter.unusedVariables false

/-- A slice of slices of bytes. -/
def hd (h : AV) : List AV := [h]
theorem hd_len (h : AV) : (hd h).length = 1 := rfl
def Each (s : Store) (hs : List AV) (rows : List (List Int)) : Prop := hs.length = rows.length ∧ ∀ (i : Nat) h r, hs[i]? = some h → rows[i]? = some r → IsV s h .u8 r
def IsVV (s : Store) (v : AV) (rows : List (List Int)) : Prop := ∃ hs, IsL hd 1 s v hs ∧ Each s hs rows
theorem Each.ext {s s' : Store} {hs : List AV} {rows : List (List Int)} (h : Each s hs rows) (e : Ext s s') : Each s' hs rows := ⟨h.1, fun i a r h1 h2 => (h.2 i a r h1 h2).ext e⟩
theorem IsVV.ext {s s' : Store} {v : AV} {rows : List (List Int)} (h : IsVV s v rows) (e : Ext s s') : IsVV s' v rows := by
  obtain ⟨hs, h1, h2⟩ := h
  exact ⟨hs, h1.ext e, h2.ext e⟩
theorem lenVV {s : Store} {v : AV} {rows : List (List Int)} (h : IsVV s v rows) {α : Type} (f : AV → Option α) : aLen v f = f (.int .i64 rows.length) := by
  obtain ⟨hs, h1, h2, _⟩ := h
  rw [lenL h1, h2]
theorem atVV {s0 : Store} {v : AV} {rows : List (List Int)} (h : IsVV s0 v rows) {i : Nat} (hi : i < rows.length) : ∃ p hh, (∀ {α : Type} (kk : IntKind) (f : AV → Option α), aIndexSl 1 v (.int kk (i : Int)) f = f p) ∧ (∀ {s : Store}, Ext s0 s → ∀ {α : Type} (f : AV → Option α), aLoad1 p s f = f hh) ∧ IsV s0 hh .u8 rows[i] := by
  obtain ⟨hs, h1, h2, h3⟩ := h
  have hih : i < hs.length := by omega
  rcases h1 with ⟨_, rfl⟩ | ⟨id, ro, rfl, hid, hg⟩
  · simp at hih
  · exact ⟨_, hs[i], fun kk f => idxL hih f, fun e => fun f => fldL (j := 0) hd_len ((e.get id hid).trans hg) hih rfl f, h3 i _ _ (List.getElem?_eq_getElem hih) (List.getElem?_eq_getElem hi)⟩
theorem Ext.lo' {s0 s s' : Store} (e : Ext s0 s) (k : ExtLo s0.next s s') : Ext s0 s' := ⟨Nat.le_trans e.next k.next, fun l hl => (k.get l hl).trans (e.get l hl)⟩

/-- The reference's Num. -/
theorem rnum_loop (k : Nat) {lo : Nat} : ∀ (n : Nat) (s : Store) (v : AV) (xs : List Int) (m : Int), OwnV s v .u8 xs lo → lo ≤ s.next → 0 ≤ m → m < 18446744073709551616 → xs.length + n ≤ 1000000 → wid m < n →
    ∃ v' s', F29.l0 k n (.int .u64 m) v s = F29.p0 k v' s' ∧ OwnV s' v' .u8 (xs ++ leI 8 m) lo ∧ ExtLo lo s s'
  | 0, s, v, xs, m, _, _, _, _, _, hn => by omega
  | n + 1, s, v, xs, m, ho, hlo, h0, h1, hb, hn => by
    have hs : F29.l0 k (n + 1) = fun x0 x3 s => F29.p2 k (F29.l0 k n) x0 x3 s := rfl
    rw [hs]
    clear hs
    simp only
    unfold F29.p2
    rw [gtr_i]
    by_cases hm : m = 0
    · subst hm
      rw [decide_eq_false (by omega), if_f]
      exact ⟨v, s, rfl, by simpa [leI] using ho, ExtLo.refl _ _⟩
    · have hw := wid_step (n := m) (by omega) h1
      rw [decide_eq_true (by omega), if_t]
      unfold F29.p1
      rw [rem_i h0 (by omega), conv_i, byte_of, build_1, show m % 256 % 256 = m % 256 by omega]
      obtain ⟨v1, s1, k1, k2, k3, _⟩ := app1V (bytes := 1) ho hlo (m % 256) (by omega) (by omega)
      rw [k1, quo_i h0 (by omega), w_u64 (by omega) (by omega)]
      have e8 := leI_8 (n := m) (by omega) h1
      obtain ⟨v', s', j1, j2, j3⟩ := rnum_loop k n s1 v1 (xs ++ [m % 256]) (m / 256) k2 (Nat.le_trans hlo k3.next) (by omega) (by omega) (by simp; omega) (by omega)
      refine ⟨v', s', j1, ?_, k3.trans j3⟩
      rw [e8, List.append_cons]; exact j2
theorem rnum_run {s : Store} {n : Int} (h0 : 0 ≤ n) (h1 : n < 18446744073709551616) (k : Nat) (hk : 20 ≤ k) (hk2 : k ≤ 100000) : ∃ v' s', rn (k + 1) 29 [.int .u64 n] s = some (v', s') ∧ OwnV s' v' .u8 (numB n) s.next ∧ Ext s s' := by
  rw [F29.eq]
  unfold F29.f F29.p4 F29.p3
  rw [build_0]
  have e0 := Ext.push s (.cells [] false)
  have o0 : OwnV (s.push (.cells [] false)) (.sl s.next 0 0 1 0) .u8 [] s.next := .inr ⟨s.next, rfl, Nat.le_refl _, Nat.lt_succ_self _, by rw [get_push, if_pos rfl]; rfl⟩
  have hw := leI_len 8 n
  have hwd : wid n = (leI 8 n).length := rfl
  obtain ⟨v1, s1, k1, k2, k3⟩ := rnum_loop k (lo := s.next) k _ _ [] n o0 e0.next h0 h1 (by simp; omega) (by omega)
  rw [List.nil_append] at k2
  have e1 := e0.lo' k3
  have hk2n := k2.is
  rw [k1]
  unfold F29.p0
  rw [lenV k2.is, conv_i, byte_of, build_1, show ((leI 8 n).length : Int) % 256 = ((leI 8 n).length : Int) by omega]
  have e2 := Ext.push s1 (.cells [.int .u8 ((leI 8 n).length : Int)] false)
  have o2 : OwnV (s1.push (.cells [.int .u8 ((leI 8 n).length : Int)] false)) (.sl s1.next 0 1 1 1) .u8 [((leI 8 n).length : Int)] s1.next := .inr ⟨s1.next, rfl, Nat.le_refl _, Nat.lt_succ_self _, by rw [get_push, if_pos rfl]; rfl⟩
  obtain ⟨v', s', j1, j2, j3, _⟩ := appV (bytes := 1) o2 e2.next (k2.is.ext e2) (by simp; omega) (by omega)
  rw [j1]
  have e3 : Ext s1 s' := ⟨Nat.le_trans e2.next j3.next, fun l hl => (j3.get l hl).trans (e2.get l hl)⟩
  exact ⟨v', s', rfl, j2.mono e1.next, e1.trans e3⟩
end Go.Proofs.Ytkfdgegmahbkiaa.Sim
namespace Go.Proofs.Ytkfdgegmahbkiaa.Sim
set_option linter.unusedSimpArgs false
set_option linter.unusedVariables false

/-- All rows but two are as they were. -/
structure Fr2 (a : Nat) (s s' : Store) : Prop where
  next : s.next ≤ s'.next
  get : ∀ l, l < s.next → l ≠ a → l ≠ a + 1 → s'.get l = s.get l
theorem Fr2.refl (a : Nat) (s : Store) : Fr2 a s s := ⟨Nat.le_refl _, fun _ _ _ _ => rfl⟩
theorem Fr2.trans {a : Nat} {s s' s'' : Store} (h : Fr2 a s s') (k : Fr2 a s' s'') : Fr2 a s s'' := ⟨Nat.le_trans h.next k.next, fun l hl h1 h2 => (k.get l (Nat.lt_of_lt_of_le hl h.next) h1 h2).trans (h.get l hl h1 h2)⟩
theorem Ext.fr2 {s s' : Store} (h : Ext s s') (a : Nat) : Fr2 a s s' := ⟨h.next, fun l hl _ _ => h.get l hl⟩
theorem Fr2.ext {a : Nat} {s0 s s' : Store} (e : Ext s0 s) (h : Fr2 a s s') (ha : s0.next ≤ a) : Ext s0 s' := ⟨Nat.le_trans e.next h.next, fun l hl => (h.get l (Nat.lt_of_lt_of_le hl e.next) (by omega) (by omega)).trans (e.get l hl)⟩
def offX (a : Nat) (v : AV) : Prop := ∀ i b c d f, v = .sl i b c d f → i ≠ a ∧ i ≠ a + 1
theorem IsV.fr2 {a : Nat} {s s' : Store} {v : AV} {k : IntKind} {xs : List Int} (h : IsV s v k xs) (e : Fr2 a s s') (hx : offX a v) : IsV s' v k xs := by
  rcases h with h | ⟨l, off, ys, ro, h1, h2, h3, h4⟩
  · exact .inl h
  · obtain ⟨x1, x2⟩ := hx _ _ _ _ _ h1
    exact .inr ⟨l, off, ys, ro, h1, Nat.lt_of_lt_of_le h2 e.next, by rw [e.get l h2 x1 x2]; exact h3, h4⟩
def EachX (a : Nat) (s : Store) (hs : List AV) (rows : List (List Int)) : Prop := Each s hs rows ∧ ∀ h ∈ hs, offX a h
theorem EachX.fr2 {a : Nat} {s s' : Store} {hs : List AV} {rows : List (List Int)} (h : EachX a s hs rows) (e : Fr2 a s s') : EachX a s' hs rows :=
  ⟨⟨h.1.1, fun i x r h1 h2 => (h.1.2 i x r h1 h2).fr2 e (h.2 x (List.mem_of_getElem? h1))⟩, h.2⟩
section
variable {x0 x1 x2 x7 : AV} {a : Nat} {s0 : Store}

end

end Go.Proofs.Ytkfdgegmahbkiaa.Sim
namespace Go.Proofs.Ytkfdgegmahbkiaa.Sim
set_option linter.unusedSimpArgs false
set_option linter.unusedVariables false

/-- The number that bytes make, the last one first. -/
def valI : List Int → Int
  | [] => 0
  | d :: ds => d + 256 * valI ds
theorem valI_bnd : ∀ (l : List Int), (∀ x ∈ l, 0 ≤ x ∧ x < 256) → 0 ≤ valI l ∧ valI l < 256 ^ l.length
  | [], _ => ⟨Int.le_refl _, by simp [valI]⟩
  | d :: ds, h => by
    obtain ⟨h1, h2⟩ := valI_bnd ds fun x hx => h x (List.mem_cons_of_mem _ hx)
    have hd := h d List.mem_cons_self
    rw [valI, List.length_cons, Int.pow_succ]
    omega
theorem valI_snoc : ∀ (l : List Int) (x : Int), valI (l ++ [x]) = valI l + x * 256 ^ l.length
  | [], x => by simp [valI]
  | d :: ds, x => by
    rw [List.cons_append, valI, valI, valI_snoc ds x, List.length_cons, Int.pow_succ, Int.mul_add, ← Int.mul_assoc x, Int.mul_comm (x * 256 ^ ds.length) 256]
    omega
/-- Bytes whose last one isn't zero are a number's own. -/
theorem le_valI : ∀ (l : List Int) (f : Nat), l.length ≤ f → (∀ x ∈ l, 0 ≤ x ∧ x < 256) → (∀ h : l ≠ [], l.getLast h ≠ 0) → leI f (valI l) = l
  | [], f, _, _, _ => by cases f <;> simp [leI, valI]
  | d :: ds, f, hf, hu, hl => by
    obtain ⟨f, rfl⟩ : ∃ q, f = q + 1 := ⟨f - 1, by simp at hf; omega⟩
    have hd := hu d List.mem_cons_self
    have hds := fun x hx => hu x (List.mem_cons_of_mem d hx)
    have hb := valI_bnd ds hds
    have ih := le_valI ds f (by simpa using hf) hds (fun h => by have := hl (by simp); rwa [List.getLast_cons h] at this)
    have hne : valI (d :: ds) ≠ 0 := by
      rw [valI]
      cases ds with
      | nil => have := hl (by simp); simp at this; simp [valI]; omega
      | cons e es =>
        intro q
        have hz : valI (e :: es) = 0 := by omega
        rw [hz] at ih
        have : leI f 0 = [] := by cases f <;> simp [leI]
        rw [this] at ih
        cases ih
    rw [leI_succ, if_neg hne]
    have e1 : valI (d :: ds) % 256 = d := by rw [valI]; omega
    have e2 : valI (d :: ds) / 256 = valI ds := by rw [valI]; omega
    rw [e1, e2, ih]
theorem leI_last : ∀ (f : Nat) (n : Int), 0 ≤ n → n < 256 ^ f → ∀ h : leI f n ≠ [], (leI f n).getLast h ≠ 0
  | 0, _, _, _, h => absurd rfl h
  | f + 1, n, h0, h1, h => by
    by_cases hn : n = 0
    · subst hn; exact absurd (by simp [leI]) h
    · have e : leI (f + 1) n = (n % 256) :: leI f (n / 256) := by rw [leI_succ, if_neg hn]
      have hlt : n / 256 < 256 ^ f := by rw [Int.pow_succ] at h1; omega
      have e2 : (leI (f + 1) n).getLast h = ((n % 256) :: leI f (n / 256)).getLast (by simp) := by congr 1
      rw [e2]
      by_cases hz : leI f (n / 256) = []
      · have : n / 256 = 0 := by
          cases f with
          | zero => simp at hlt; omega
          | succ f =>
            by_cases q : n / 256 = 0
            · exact q
            · rw [leI_succ, if_neg q] at hz; cases hz
        simp only [hz, List.getLast_singleton]; omega
      · rw [List.getLast_cons hz]
        exact leI_last f (n / 256) (by omega) hlt hz

/-- The number in front of bytes: it, what stands behind it, the error. -/
def numR (b : List Int) (most : Int) : Int × List Int × Int :=
  match b with
  | [] => (0, [], 2)
  | k :: r => if k > 8 then (0, [], 3) else if k > r.length then (0, [], 2) else if k > 0 ∧ r.getD (k - 1).toNat 0 = 0 then (0, [], 3)
    else if valI (r.take k.toNat) > most then (0, [], 6) else (valI (r.take k.toNat), r.drop k.toNat, 0)

theorem p256 (i : Nat) : ((256 ^ i : Nat) : Int) = (256 : Int) ^ i := Int.natCast_pow 256 i
theorem or_disj {a x : Int} {i : Nat} (ha0 : 0 ≤ a) (ha : a < 256 ^ i) (hx0 : 0 ≤ x) (hx : x < 256) (hi : i ≤ 7) : (BitVec.ofInt 64 a ||| BitVec.ofInt 64 (x * 256 ^ i)).toNat = (a + x * 256 ^ i).toNat := by
  obtain ⟨A, rfl⟩ : ∃ A : Nat, a = A := ⟨a.toNat, by omega⟩
  obtain ⟨X, rfl⟩ : ∃ X : Nat, x = X := ⟨x.toNat, by omega⟩
  have hA : A < 256 ^ i := by rw [← p256] at ha; omega
  have hX : X < 256 := by omega
  have hp : 256 ^ i ≤ 256 ^ 7 := Nat.pow_le_pow_right (by omega) hi
  have h7 : (256 : Nat) ^ 7 = 72057594037927936 := rfl
  have hXi : X * 256 ^ i ≤ 255 * 256 ^ 7 := Nat.mul_le_mul (by omega) hp
  have e : ((X : Int) * 256 ^ i) = ((X * 256 ^ i : Nat) : Int) := by rw [Int.natCast_mul, p256]
  rw [e, BitVec.ofInt_natCast, BitVec.ofInt_natCast, BitVec.toNat_or, BitVec.toNat_ofNat, BitVec.toNat_ofNat, Nat.mod_eq_of_lt (by omega), Nat.mod_eq_of_lt (by omega)]
  have e2 : (256 : Nat) ^ i = 2 ^ (8 * i) := by rw [Nat.pow_mul]
  have e3 : X * 256 ^ i = X <<< (8 * i) := by rw [Nat.shiftLeft_eq, e2]
  rw [← Int.natCast_add, Int.toNat_natCast, e3, Nat.or_comm, ← Nat.shiftLeft_add_eq_or_of_lt (by rw [← e2]; exact hA), Nat.add_comm]

theorem number_loop (k : Nat) {s : Store} {rv x1 : AV} {r : List Int} {kk : Nat} (hv : IsV s rv .u8 r) (hu : ∀ x ∈ r, 0 ≤ x ∧ x < 256) (hk : kk ≤ 8) (hkr : kk ≤ r.length) : ∀ (n i : Nat), i ≤ kk → kk - i < n →
    F62.l0 k n rv x1 (.int .i64 kk) (.int .u64 (valI (r.take i))) (.int .i64 kk) (.int .i64 i) s = F62.p2 k rv x1 (.int .i64 kk) (.int .u64 (valI (r.take kk))) s
  | 0, i, hi, hn => by omega
  | n + 1, i, hi, hn => by
    have hs : F62.l0 k (n + 1) = fun x0 x1 x7 x8 x38 x39 s => F62.p6 k (F62.l0 k n) x0 x1 x7 x8 x38 x39 s := rfl
    rw [hs]
    clear hs
    simp only
    unfold F62.p6 F62.p5
    rw [lss_i]
    by_cases h : i < kk
    · rw [decide_eq_true (by omega), if_t]
      unfold F62.p4 F62.p3
      have hw1 : IntKind.i64.wrap ((i : Int) + 1) = ((i + 1 : Nat) : Int) := by rw [w_i64 (by omega) (by omega)]; omega
      obtain ⟨p, p1, p2⟩ := atV hv (show (0 : Int) ≤ i by omega) (by omega)
      have hir : i < r.length := by omega
      have eg : r.getD (i : Int).toNat 0 = r[i] := by simp [hir]
      have hx := hu _ (List.getElem_mem hir)
      have hb := valI_bnd (r.take i) fun x hx => hu x (List.mem_of_mem_take hx)
      have hlt : (r.take i).length = i := by simp; omega
      rw [hlt] at hb
      have h8 : (256 : Int) ^ i ≤ 256 ^ 7 := by
        have : (256 : Nat) ^ i ≤ 256 ^ 7 := Nat.pow_le_pow_right (by omega) (by omega)
        rw [← p256 i, ← p256 7]; exact Int.ofNat_le.2 this
      have h7 : (256 : Int) ^ 7 = 72057594037927936 := rfl
      have hpos : 0 < (256 : Int) ^ i := Int.pow_pos (by omega)
      have hmul : r[i] * 256 ^ i ≤ 255 * 256 ^ i := Int.mul_le_mul_of_nonneg_right (by omega) (by omega)
      have hmul0 : 0 ≤ r[i] * 256 ^ i := Int.mul_nonneg hx.1 (by omega)
      have hsum : valI (r.take i) + r[i] * 256 ^ i < 18446744073709551616 := by
        have : (255 : Int) * 256 ^ i ≤ 255 * 72057594037927936 := Int.mul_le_mul_of_nonneg_left (by omega) (by omega)
        omega
      have hshl : ∀ {α : Type} (f : AV → Option α), aShift .shl (.int .u64 r[i]) (.int .i64 (8 * (i : Int))) f = f (.int .u64 (r[i] * 256 ^ i)) := by
        intro α f
        have e1 : min (8 * (i : Int)).toNat IntKind.u64.bits = 8 * i := by simp [IntKind.bits]; omega
        simp only [aShift, if_neg (show ¬ (8 * (i : Int)) < 0 by omega), e1]
        have e2 : (2 : Int) ^ (8 * i) = 256 ^ i := by rw [Int.pow_mul]; rfl
        rw [e2, w_u64 hmul0 (by omega)]
      have hor : ∀ {α : Type} (f : AV → Option α), aBin .or (.int .u64 (valI (r.take i))) (.int .u64 (r[i] * 256 ^ i)) f = f (.int .u64 (valI (r.take (i + 1)))) := by
        intro α f
        have e1 := or_disj (i := i) hb.1 hb.2 hx.1 hx.2 (by omega)
        simp only [aBin, intBin, if_true]
        rw [show (IntKind.u64.bits) = 64 from rfl, e1, List.take_succ_eq_append_getElem hir, valI_snoc, hlt, Int.toNat_of_nonneg (by omega), w_u64 (by omega) hsum]
      have hmul8 : IntKind.i64.wrap (8 * (i : Int)) = 8 * (i : Int) := w_i64 (by omega) (by omega)
      have hm : ∀ {α : Type} (f : AV → Option α), aBin .mul (.int .i64 8) (.int .i64 (i : Int)) f = f (.int .i64 (8 * (i : Int))) := by
        intro α f
        simp only [aBin, intBin, if_true, hmul8]
      rw [p1, p2, eg, conv_i, w_u64 (by omega) (by omega), hm, hshl, hor, add_i, hw1]
      exact number_loop k hv hu hk hkr n (i + 1) (by omega) (by omega)
    · rw [decide_eq_false (by omega), if_f, show i = kk by omega]

theorem number_run {s : Store} {bv : AV} {b : List Int} {most : Int} (hv : IsV s bv .u8 b) (hu : ∀ x ∈ b, 0 ≤ x ∧ x < 256) (hb : b.length ≤ 1000000) (k : Nat) (hk : 20 ≤ k) : ∃ lv, rn (k + 1) 62 [bv, .int .u64 most] s = some (.tuple [.int .u64 (numR b most).1, lv, .int .i64 (numR b most).2.2], s) ∧ IsV s lv .u8 (numR b most).2.1 ∧ (∀ a b c d f, lv = .sl a b c d f → ∃ b c d f, bv = .sl a b c d f) := by
  rw [F62.eq]
  unfold F62.f F62.p13 F62.p12
  rw [lenV hv, eql_i]
  cases b with
  | nil =>
    rw [show (((([] : List Int).length : Nat) : Int) == 0) = true from rfl, if_t]
    exact ⟨.nilsl, rfl, .inl ⟨rfl, rfl⟩, fun a b c d f e => by cases e⟩
  | cons k0 r =>
    have hz : ((((k0 :: r).length : Nat) : Int) == 0) = false := beq_eq_false_iff_ne.2 (by simp only [List.length_cons]; omega)
    rw [hz, if_f]
    unfold F62.p11
    obtain ⟨p, p1, p2⟩ := atV hv (show (0 : Int) ≤ 0 by omega) (by simp only [List.length_cons]; omega)
    have hk0 := hu k0 List.mem_cons_self
    have hur := fun x hx => hu x (List.mem_cons_of_mem k0 hx)
    have e0 : (k0 :: r).getD (0 : Int).toNat 0 = k0 := rfl
    rw [p1, p2, e0, conv_i, w_i64 (by omega) (by omega)]
    unfold F62.p10
    obtain ⟨rv, r1, _, r3, _, r2⟩ := sliceV hv (a := 1) (b := (k0 :: r).length) (by simp) (Nat.le_refl _)
    have r2' : ∀ {α : Type} (f : AV → Option α), aSliceSl 1 bv (some (.int .i64 1)) none f = f rv := fun f => r2 rfl .i64 f
    have r1' : IsV s rv .u8 r := by
      have e : (((k0 :: r).drop 1).take ((k0 :: r).length - 1)) = r := by simp
      rw [e] at r1; exact r1
    rw [r2']
    unfold F62.p9
    rw [gtr_i]
    by_cases h1 : k0 > 8
    · have e : numR (k0 :: r) most = (0, [], 3) := by unfold numR; simp only; rw [if_pos h1]
      rw [decide_eq_true h1, if_t, e]
      exact ⟨.nilsl, rfl, .inl ⟨rfl, rfl⟩, fun a b c d f e => by cases e⟩
    · rw [decide_eq_false h1, if_f, lenV r1', gtr_i]
      by_cases h2 : k0 > (r.length : Int)
      · have e : numR (k0 :: r) most = (0, [], 2) := by unfold numR; simp only; rw [if_neg h1, if_pos h2]
        rw [decide_eq_true h2, if_t, e]
        exact ⟨.nilsl, rfl, .inl ⟨rfl, rfl⟩, fun a b c d f e => by cases e⟩
      · obtain ⟨kk, hkk⟩ : ∃ kk : Nat, k0 = kk := ⟨k0.toNat, by omega⟩
        subst hkk
        have hgo : ¬ ((kk : Int) > 0 ∧ r.getD ((kk : Int) - 1).toNat 0 = 0) → ∃ lv, F62.p8 k rv (.int .u64 most) (.int .i64 kk) s = some (.tuple [.int .u64 (numR ((kk : Int) :: r) most).1, lv, .int .i64 (numR ((kk : Int) :: r) most).2.2], s) ∧ IsV s lv .u8 (numR ((kk : Int) :: r) most).2.1 ∧ (∀ a b c d f, lv = .sl a b c d f → ∃ b c d f, bv = .sl a b c d f) := by
          intro h3
          have hl := number_loop k (x1 := .int .u64 most) (kk := kk) r1' hur (by omega) (by omega) k 0 (by omega) (by omega)
          rw [Int.natCast_zero] at hl
          unfold F62.p8 F62.p7
          rw [show valI (r.take 0) = 0 from rfl] at hl
          rw [hl]
          unfold F62.p2
          rw [gtr_i]
          have hbn := valI_bnd (r.take kk) fun x hx => hur x (List.mem_of_mem_take hx)
          by_cases h4 : valI (r.take kk) > most
          · have e : numR ((kk : Int) :: r) most = (0, [], 6) := by unfold numR; simp only [Int.toNat_natCast]; rw [if_neg h1, if_neg h2, if_neg h3, if_pos h4]
            rw [decide_eq_true h4, if_t, e]
            exact ⟨.nilsl, rfl, .inl ⟨rfl, rfl⟩, fun a b c d f e => by cases e⟩
          · have e : numR ((kk : Int) :: r) most = (valI (r.take kk), r.drop kk, 0) := by unfold numR; simp only [Int.toNat_natCast]; rw [if_neg h1, if_neg h2, if_neg h3, if_neg h4]
            rw [decide_eq_false h4, if_f, e]
            unfold F62.p1 F62.p0
            obtain ⟨lv, l1, _, l3, _, l2⟩ := sliceV r1' (a := kk) (b := r.length) (by omega) (Nat.le_refl _)
            have l2' : ∀ {α : Type} (f : AV → Option α), aSliceSl 1 rv (some (.int .i64 (kk : Int))) none f = f lv := fun f => l2 rfl .i64 f
            have l1' : IsV s lv .u8 (r.drop kk) := by
              have e : ((r.drop kk).take (r.length - kk)) = r.drop kk := List.take_of_length_le (by simp)
              rw [e] at l1; exact l1
            simp only [bnd, guard_tt, guard_ff, guard_tf, guard_ft, pick_t, pick_f, if_t, if_f, add_i, sub_i, lss_i, leq_i, gtr_i, geq_i, eql_i, neq_i, min_i, max_i, conv_i, len_sl, len_nil, not_b, cells_agg, new_s, fld_p, nil_p, l2']
            exact ⟨lv, rfl, l1', fun a b c d f q => by obtain ⟨b', c', d', f', q'⟩ := l3 a b c d f q; exact r3 a b' c' d' f' q'⟩
        rw [decide_eq_false h2, if_f, gtr_i]
        by_cases h3 : (kk : Int) > 0
        · obtain ⟨q, q1, q2⟩ := atV r1' (i := (kk : Int) - 1) (by omega) (by omega)
          simp only [decide_eq_true h3, bnd, guard_tt, guard_ff, guard_tf, guard_ft, pick_t, pick_f, if_t, if_f, add_i, sub_i, lss_i, leq_i, gtr_i, geq_i, eql_i, neq_i, min_i, max_i, conv_i, len_sl, len_nil, not_b, cells_agg, new_s, fld_p, nil_p, w_i64 (show -9223372036854775808 ≤ (kk : Int) - 1 by omega) (show (kk : Int) - 1 < 9223372036854775808 by omega), q1, q2]
          by_cases h4 : r.getD ((kk : Int) - 1).toNat 0 = 0
          · have e : numR ((kk : Int) :: r) most = (0, [], 3) := by unfold numR; simp only; rw [if_neg h1, if_neg h2, if_pos ⟨h3, h4⟩]
            rw [h4, e]
            exact ⟨.nilsl, rfl, .inl ⟨rfl, rfl⟩, fun a b c d f e => by cases e⟩
          · have h4' : (r.getD ((kk : Int) - 1).toNat 0 == 0) = false := by simpa using h4
            rw [h4', if_f]
            exact hgo fun q => h4 q.2
        · simp only [decide_eq_false h3, bnd, guard_tt, guard_ff, guard_tf, guard_ft, pick_t, pick_f, if_t, if_f, add_i, sub_i, lss_i, leq_i, gtr_i, geq_i, eql_i, neq_i, min_i, max_i, conv_i, len_sl, len_nil, not_b, cells_agg, new_s, fld_p, nil_p]
          exact hgo fun q => h3 q.1
end Go.Proofs.Ytkfdgegmahbkiaa.Sim
namespace Go.Proofs.Ytkfdgegmahbkiaa.Sim
set_option linter.unusedSimpArgs false
set_option linter.unusedVariables false

/-- A reader: its struct's row, what stands behind it, its error; 'lo': where its rows lie. -/
def IsRd (s : Store) (id : Nat) (b : List Int) (e : Int) (lo : Nat → Prop) : Prop := ∃ bv, s.get id = .cells [bv, .int .i64 e] false ∧ id < s.next ∧ lo id ∧ IsV s bv .u8 b ∧ ∀ i x c d f, bv = .sl i x c d f → i ≠ id ∧ lo i
theorem IsRd.mono {s : Store} {id : Nat} {b : List Int} {e : Int} {lo lo' : Nat → Prop} (h : IsRd s id b e lo) (k : ∀ i, lo i → lo' i) : IsRd s id b e lo' := by
  obtain ⟨bv, h1, h2, h3, h4, h5⟩ := h
  exact ⟨bv, h1, h2, k _ h3, h4, fun i x c d f q => ⟨(h5 i x c d f q).1, k _ (h5 i x c d f q).2⟩⟩
theorem IsRd.ext {s s' : Store} {id : Nat} {b : List Int} {e : Int} {lo : Nat → Prop} (h : IsRd s id b e lo) (x : Ext s s') : IsRd s' id b e lo := by
  obtain ⟨bv, h1, h2, h3, h4, h5⟩ := h
  exact ⟨bv, (x.get id h2).trans h1, Nat.lt_of_lt_of_le h2 x.next, h3, h4.ext x, h5⟩
section
variable {s : Store} {id : Nat} {lo : Nat → Prop} {b : List Int} {e : Int}

theorem ld_f0 {bv : AV} {x : Int} (hg : s.get id = .cells [bv, .int .i64 x] false) {α : Type} (f : AV → Option α) : aLoad1 (.ptr id (0 + 0) 2) s f = f bv := load_1 hg rfl rfl
theorem ld_f1 {bv : AV} {x : Int} (hg : s.get id = .cells [bv, .int .i64 x] false) {α : Type} (f : AV → Option α) : aLoad1 (.ptr id (0 + 1) 2) s f = f (.int .i64 x) := load_1 hg rfl rfl
theorem st_f1 {bv : AV} {x y : Int} (hg : s.get id = .cells [bv, .int .i64 x] false) {α : Type} (f : Store → Option α) : aStore 1 (.ptr id (0 + 1) 2) (.int .i64 y) s f = f (s.set id (.cells [bv, .int .i64 y] false)) := by
  simp [aStore, aCells, aOwn, hg, putAll]
theorem st_f0 {bv cv : AV} {x : Int} {k : IntKind} {xs : List Int} {t : Store} (hg : s.get id = .cells [bv, .int .i64 x] false) (hc : IsV t cv k xs) {α : Type} (f : Store → Option α) : aStore 1 (.ptr id (0 + 0) 2) cv s f = f (s.set id (.cells [cv, .int .i64 x] false)) := by
  simp [aStore, cellsV hc, aOwn, hg, putAll]
theorem eq_pn (l o ep : Nat) {α : Type} (f : Bool → Option α) : aEq .ptr (.ptr l o ep) .nilptr f = f false := rfl

theorem ready_run (h : IsRd s id b e lo) (k : Nat) : rn (k + 1) 61 [.ptr id 0 2] s = some (.bool (e == 0), s) := by
  obtain ⟨bv, h1, h2, h3, h4, h5⟩ := h
  rw [F61.eq]
  unfold F61.f F61.p0
  simp only [eq_pn, Bool.not_false, bnd, guard_tt, guard_ff, guard_tf, guard_ft, pick_t, pick_f, if_t, if_f, add_i, sub_i, lss_i, leq_i, gtr_i, geq_i, eql_i, neq_i, min_i, max_i, conv_i, len_sl, len_nil, not_b, cells_agg, new_s, fld_p, nil_p, ld_f1 h1]
theorem left_run (h : IsRd s id b e lo) (k : Nat) : rn (k + 1) 43 [.ptr id 0 2] s = some (.int .i64 b.length, s) := by
  obtain ⟨bv, h1, h2, h3, h4, h5⟩ := h
  rw [F43.eq]
  unfold F43.f F43.p0
  simp only [eq_pn, bnd, guard_tt, guard_ff, guard_tf, guard_ft, pick_t, pick_f, if_t, if_f, add_i, sub_i, lss_i, leq_i, gtr_i, geq_i, eql_i, neq_i, min_i, max_i, conv_i, len_sl, len_nil, not_b, cells_agg, new_s, fld_p, nil_p, ld_f0 h1, lenV h4]
theorem err_run (h : IsRd s id b e lo) (k : Nat) : rn (k + 1) 44 [.ptr id 0 2] s = some (.int .i64 e, s) := by
  obtain ⟨bv, h1, h2, h3, h4, h5⟩ := h
  rw [F44.eq]
  unfold F44.f F44.p0
  simp only [eq_pn, bnd, guard_tt, guard_ff, guard_tf, guard_ft, pick_t, pick_f, if_t, if_f, add_i, sub_i, lss_i, leq_i, gtr_i, geq_i, eql_i, neq_i, min_i, max_i, conv_i, len_sl, len_nil, not_b, cells_agg, new_s, fld_p, nil_p, ld_f1 h1]
def endR (b : List Int) (e : Int) : Int := if e = 0 ∧ 0 < b.length then 4 else e
theorem end_run (h : IsRd s id b e lo) (k : Nat) : rn (k + 2) 20 [.ptr id 0 2] s = some (.int .i64 (endR b e), s) := by
  rw [F20.eq]
  unfold F20.f F20.p0 endR
  simp only [err_run h, bnd, guard_tt, guard_ff, guard_tf, guard_ft, pick_t, pick_f, if_t, if_f, add_i, sub_i, lss_i, leq_i, gtr_i, geq_i, eql_i, neq_i, min_i, max_i, conv_i, len_sl, len_nil, not_b, cells_agg, new_s, fld_p, nil_p]
  by_cases he : e = 0
  · subst he
    simp only [beq_self_eq_true, bnd, guard_tt, guard_ff, guard_tf, guard_ft, pick_t, pick_f, if_t, if_f, add_i, sub_i, lss_i, leq_i, gtr_i, geq_i, eql_i, neq_i, min_i, max_i, conv_i, len_sl, len_nil, not_b, cells_agg, new_s, fld_p, nil_p, left_run h]
    by_cases hb : 0 < b.length
    · rw [decide_eq_true (show (b.length : Int) > 0 by omega), if_t]; simp [hb]
    · rw [decide_eq_false (show ¬ (b.length : Int) > 0 by omega), if_f, err_run h, bnd]; simp [hb]
  · have he' : (e == 0) = false := by simpa using he
    simp only [he', bnd, guard_tt, guard_ff, guard_tf, guard_ft, pick_t, pick_f, if_t, if_f, add_i, sub_i, lss_i, leq_i, gtr_i, geq_i, eql_i, neq_i, min_i, max_i, conv_i, len_sl, len_nil, not_b, cells_agg, new_s, fld_p, nil_p, err_run h]
    rw [if_neg (fun q => he q.1)]

theorem new_run {bv : AV} (hv : IsV s bv .u8 b) (hb : b.length ≤ 1000000) (k : Nat) : ∃ id s', rn (k + 2) 18 [bv] s = some (.ptr id 0 2, s') ∧ IsRd s' id b 0 (fun i => s.next ≤ i ∧ i < s'.next) ∧ Ext s s' := by
  rw [F18.eq]
  unfold F18.f F18.p0
  obtain ⟨cv, s1, k1, o1, e1⟩ := clone_u8 hv hb k
  rw [k1, bnd]
  have hb2 : ∀ f : List AV → Option (AV × Store), aBuild [(0, 1, cv)] [AV.nilsl, AV.int .i64 0] f = f [cv, .int .i64 0] := by
    intro f
    simp only [aBuild, cellsV o1.is]
    simp [putAll]
  simp only
  rw [hb2, cells_agg, new_s]
  have e2 := Ext.push s1 (.cells [cv, .int .i64 0] false)
  refine ⟨s1.next, _, rfl, ⟨cv, by rw [get_push, if_pos rfl], Nat.lt_succ_self _, ⟨e1.next, Nat.lt_succ_self _⟩, o1.is.ext e2, fun i x c d f hj => ?_⟩, e1.trans e2⟩
  rcases o1 with ⟨q, _⟩ | ⟨j, q, i1, i2, _⟩
  · rw [q] at hj; cases hj
  · rw [q] at hj; cases hj; exact ⟨by omega, i1, by rw [next_push]; omega⟩

def rdNum (b : List Int) (e most : Int) : Int × List Int × Int := if e ≠ 0 then (0, b, e) else if (numR b most).2.2 ≠ 0 then (0, b, (numR b most).2.2) else numR b most
theorem num_run (h : IsRd s id b e lo) (hu : ∀ x ∈ b, 0 ≤ x ∧ x < 256) (hb : b.length ≤ 1000000) (most : Int) (k : Nat) (hk : 20 ≤ k) : ∃ s', rn (k + 2) 42 [.ptr id 0 2, .int .u64 most] s = some (.int .u64 (rdNum b e most).1, s') ∧ IsRd s' id (rdNum b e most).2.1 (rdNum b e most).2.2 lo ∧ Fr1 id s s' := by
  rw [F42.eq]
  unfold F42.f F42.p0 rdNum
  rw [ready_run h, bnd, not_b]
  by_cases he : e = 0
  · subst he
    have h' := h
    obtain ⟨bv, h1, h2, h3, h4, h5⟩ := h
    obtain ⟨lv, n1, n2, n3⟩ := number_run (most := most) h4 hu hb k hk
    have ex : ∀ (x y z : AV) {α : Type} (f : AV → Option α), aExtract 0 (.tuple [x, y, z]) f = f x ∧ aExtract 1 (.tuple [x, y, z]) f = f y ∧ aExtract 2 (.tuple [x, y, z]) f = f z := fun x y z α f => ⟨rfl, rfl, rfl⟩
    simp only [beq_self_eq_true, Bool.not_true, bnd, guard_tt, guard_ff, guard_tf, guard_ft, pick_t, pick_f, if_t, if_f, add_i, sub_i, lss_i, leq_i, gtr_i, geq_i, eql_i, neq_i, min_i, max_i, conv_i, len_sl, len_nil, not_b, cells_agg, new_s, fld_p, nil_p, ld_f0 h1, n1, (ex _ _ _ _).1, (ex _ _ _ _).2.1, (ex _ _ _ _).2.2, ne_eq, not_true, if_false]
    by_cases hx : (numR b most).2.2 = 0
    · have hx' : ((numR b most).2.2 != 0) = false := by simp [hx]
      have hoff : ∀ i x c d f, lv = .sl i x c d f → i ≠ id ∧ lo i := fun i x c d f q => by
        obtain ⟨x', c', d', f', q'⟩ := n3 i x c d f q
        exact h5 i x' c' d' f' q'
      rw [hx', if_f, st_f0 h1 n2, if_neg (fun q => q hx)]
      refine ⟨_, rfl, ⟨lv, by rw [get_set, if_pos rfl, hx], h2, h3, n2.fr1 (Fr1.set id s _) fun i x c d f q => (hoff i x c d f q).1, hoff⟩, Fr1.set id s _⟩
    · have hx' : ((numR b most).2.2 != 0) = true := by simpa using hx
      rw [hx', if_t, st_f1 h1, if_pos hx]
      exact ⟨_, rfl, ⟨bv, by rw [get_set, if_pos rfl], h2, h3, h4.fr1 (Fr1.set id s _) fun i x c d f q => (h5 i x c d f q).1, h5⟩, Fr1.set id s _⟩
  · have he' : (e == 0) = false := by simpa using he
    rw [he', if_pos he]
    exact ⟨s, rfl, h, Fr1.refl _ _⟩

def rdRow (b : List Int) (e most : Int) : List Int × List Int × Int := if e ≠ 0 then ([], b, e) else if (numR b 18446744073709551615).2.2 ≠ 0 then ([], b, (numR b 18446744073709551615).2.2)
  else if (numR b 18446744073709551615).1 > max most 0 then ([], b, 4) else if (numR b 18446744073709551615).1 > (numR b 18446744073709551615).2.1.length then ([], b, 2)
  else ((numR b 18446744073709551615).2.1.take (numR b 18446744073709551615).1.toNat, (numR b 18446744073709551615).2.1.drop (numR b 18446744073709551615).1.toNat, 0)
theorem numR_nn {b : List Int} (hu : ∀ x ∈ b, 0 ≤ x ∧ x < 256) (most : Int) : 0 ≤ (numR b most).1 := by
  unfold numR
  split
  · exact Int.le_refl _
  · rename_i k r
    split
    · exact Int.le_refl _
    · split
      · exact Int.le_refl _
      · split
        · exact Int.le_refl _
        · split
          · exact Int.le_refl _
          · exact (valI_bnd _ fun x hx => hu x (List.mem_cons_of_mem _ (List.mem_of_mem_take hx))).1
theorem numR_len (b : List Int) (most : Int) : (numR b most).2.1.length ≤ b.length := by
  unfold numR
  split
  · simp
  · rename_i k r
    split
    · simp
    · split
      · simp
      · split
        · simp
        · split
          · simp
          · simp; omega
theorem row_run (h : IsRd s id b e lo) (hu : ∀ x ∈ b, 0 ≤ x ∧ x < 256) (hb : b.length ≤ 1000000) (most : Int) (hm : most < 9223372036854775808) (k : Nat) (hk : 20 ≤ k) : ∃ v s', rn (k + 2) 98 [.ptr id 0 2, .int .i64 most] s = some (v, s') ∧ IsV s' v .u8 (rdRow b e most).1 ∧ IsRd s' id (rdRow b e most).2.1 (rdRow b e most).2.2 lo ∧ Fr1 id s s' := by
  rw [F98.eq]
  unfold F98.f F98.p4 F98.p3 rdRow
  rw [ready_run h, bnd, not_b]
  by_cases he : e = 0
  · subst he
    have h' := h
    obtain ⟨bv, h1, h2, h3, h4, h5⟩ := h
    obtain ⟨lv, n1, n2, n3⟩ := number_run (most := 18446744073709551615) h4 hu hb k hk
    have hnn := numR_nn hu 18446744073709551615
    have hln := numR_len b 18446744073709551615
    have ex : ∀ (x y z : AV) {α : Type} (f : AV → Option α), aExtract 0 (.tuple [x, y, z]) f = f x ∧ aExtract 1 (.tuple [x, y, z]) f = f y ∧ aExtract 2 (.tuple [x, y, z]) f = f z := fun x y z α f => ⟨rfl, rfl, rfl⟩
    unfold F98.p2
    simp only [beq_self_eq_true, Bool.not_true, bnd, guard_tt, guard_ff, guard_tf, guard_ft, pick_t, pick_f, if_t, if_f, add_i, sub_i, lss_i, leq_i, gtr_i, geq_i, eql_i, neq_i, min_i, max_i, conv_i, len_sl, len_nil, not_b, cells_agg, new_s, fld_p, nil_p, ld_f0 h1, n1, (ex _ _ _ _).1, (ex _ _ _ _).2.1, (ex _ _ _ _).2.2, ne_eq, not_true, if_false]
    generalize numR b 18446744073709551615 = R at *
    obtain ⟨n, left, er⟩ := R
    simp only at *
    have bad : ∀ y : Int, IsRd (s.set id (.cells [bv, .int .i64 y] false)) id b y lo := fun y => ⟨bv, by rw [get_set, if_pos rfl], h2, h3, h4.fr1 (Fr1.set id s _) fun i x c d f q => (h5 i x c d f q).1, h5⟩
    have hoff : ∀ i x c d f, lv = .sl i x c d f → i ≠ id ∧ lo i := fun i x c d f q => by
      obtain ⟨x', c', d', f', q'⟩ := n3 i x c d f q
      exact h5 i x' c' d' f' q'
    unfold F98.p1 F98.p0
    rw [neq_i]
    by_cases hx : er = 0
    · subst hx
      simp only [bne_self_eq_false, bnd, guard_tt, guard_ff, guard_tf, guard_ft, pick_t, pick_f, if_t, if_f, add_i, sub_i, lss_i, leq_i, gtr_i, geq_i, eql_i, neq_i, min_i, max_i, conv_i, len_sl, len_nil, not_b, cells_agg, new_s, fld_p, nil_p, not_true, if_false]
      by_cases hc : n > max most 0
      · have hw : IntKind.u64.wrap (max most 0) = max most 0 := w_u64 (by omega) (by omega)
        simp only [hw, decide_eq_true hc, bnd, guard_tt, guard_ff, guard_tf, guard_ft, pick_t, pick_f, if_t, if_f, add_i, sub_i, lss_i, leq_i, gtr_i, geq_i, eql_i, neq_i, min_i, max_i, conv_i, len_sl, len_nil, not_b, cells_agg, new_s, fld_p, nil_p, st_f1 h1, if_pos hc]
        exact ⟨_, _, rfl, .inl ⟨rfl, rfl⟩, bad 4, Fr1.set id s _⟩
      · have hw : IntKind.u64.wrap (max most 0) = max most 0 := w_u64 (by omega) (by omega)
        simp only [hw, decide_eq_false hc, bnd, guard_tt, guard_ff, guard_tf, guard_ft, pick_t, pick_f, if_t, if_f, add_i, sub_i, lss_i, leq_i, gtr_i, geq_i, eql_i, neq_i, min_i, max_i, conv_i, len_sl, len_nil, not_b, cells_agg, new_s, fld_p, nil_p, lenV n2, if_neg hc]
        by_cases hd : n > (left.length : Int)
        · by_cases hbig : (left.length : Int) < 18446744073709551616
          · simp only [w_u64 (show (0 : Int) ≤ left.length by omega) hbig, decide_eq_true hd, bnd, guard_tt, guard_ff, guard_tf, guard_ft, pick_t, pick_f, if_t, if_f, add_i, sub_i, lss_i, leq_i, gtr_i, geq_i, eql_i, neq_i, min_i, max_i, conv_i, len_sl, len_nil, not_b, cells_agg, new_s, fld_p, nil_p, st_f1 h1, if_pos hd]
            exact ⟨_, _, rfl, .inl ⟨rfl, rfl⟩, bad 2, Fr1.set id s _⟩
          · omega
        · have hbig : (left.length : Int) < 18446744073709551616 := by omega
          obtain ⟨nn, hnn2⟩ : ∃ nn : Nat, n = nn := ⟨n.toNat, by omega⟩
          subst hnn2
          obtain ⟨dv, d1, _, d3, _, d2⟩ := sliceV n2 (a := nn) (b := left.length) (by omega) (Nat.le_refl _)
          have d2' : ∀ {α : Type} (f : AV → Option α), aSliceSl 1 lv (some (.int .u64 (nn : Int))) none f = f dv := fun f => d2 rfl .u64 f
          have d1' : IsV s dv .u8 (left.drop nn) := by
            have e : ((left.drop nn).take (left.length - nn)) = left.drop nn := List.take_of_length_le (by simp)
            rw [e] at d1; exact d1
          obtain ⟨tv, t1, _, t3, t2, _⟩ := sliceV n2 (a := 0) (b := nn) (Nat.zero_le _) (by omega)
          have t2' : ∀ {α : Type} (f : AV → Option α), aSliceSl 1 lv none (some (.int .u64 (nn : Int))) f = f tv := fun f => t2 rfl .u64 f
          have t1' : IsV s tv .u8 (left.take nn) := by simpa using t1
          have toff : ∀ i x c d f, tv = .sl i x c d f → i ≠ id := fun i x c d f q => by
            obtain ⟨x', c', d', f', q'⟩ := t3 i x c d f q
            exact (hoff i x' c' d' f' q').1
          have doff : ∀ i x c d f, dv = .sl i x c d f → i ≠ id ∧ lo i := fun i x c d f q => by
            obtain ⟨x', c', d', f', q'⟩ := d3 i x c d f q
            exact hoff i x' c' d' f' q'
          have f1 := Fr1.set id s (.cells [dv, .int .i64 0] false)
          obtain ⟨cv, s2, c1, c2, c3⟩ := clone_u8 (t1'.fr1 f1 toff) (by simp; omega) k
          simp only [w_u64 (show (0 : Int) ≤ left.length by omega) hbig, decide_eq_false hd, bnd, guard_tt, guard_ff, guard_tf, guard_ft, pick_t, pick_f, if_t, if_f, add_i, sub_i, lss_i, leq_i, gtr_i, geq_i, eql_i, neq_i, min_i, max_i, conv_i, len_sl, len_nil, not_b, cells_agg, new_s, fld_p, nil_p, d2', st_f0 h1 d1', t2', c1, if_neg hd, Int.toNat_natCast]
          have r1 : IsRd (s.set id (.cells [dv, .int .i64 0] false)) id (left.drop nn) 0 lo := ⟨dv, by rw [get_set, if_pos rfl], h2, h3, d1'.fr1 f1 fun i x c d f q => (doff i x c d f q).1, doff⟩
          exact ⟨cv, s2, rfl, c2.is, r1.ext c3, f1.trans (c3.fr1 id)⟩
    · have hx' : (er != 0) = true := by simpa using hx
      simp only [hx', bnd, guard_tt, guard_ff, guard_tf, guard_ft, pick_t, pick_f, if_t, if_f, add_i, sub_i, lss_i, leq_i, gtr_i, geq_i, eql_i, neq_i, min_i, max_i, conv_i, len_sl, len_nil, not_b, cells_agg, new_s, fld_p, nil_p, st_f1 h1, hx, not_false_eq_true, if_true]
      exact ⟨_, _, rfl, .inl ⟨rfl, rfl⟩, bad er, Fr1.set id s _⟩
  · have he' : (e == 0) = false := by simpa using he
    rw [he', if_pos he]
    exact ⟨.nilsl, s, rfl, .inl ⟨rfl, rfl⟩, h, Fr1.refl _ _⟩
end
end Go.Proofs.Ytkfdgegmahbkiaa.Sim
namespace Go.Proofs.Ytkfdgegmahbkiaa.Sim
set_option linter.unusedSimpArgs false
set_option linter.unusedVariables false

section
variable {x0 x1 : AV} {s0 : Store} {id : Nat} {l : List Int} {rows : List (List Int)}

end

end Go.Proofs.Ytkfdgegmahbkiaa.Sim
namespace Go.Proofs.Ytkfdgegmahbkiaa.Sim
set_option linter.unusedSimpArgs false
set_option linter.unusedVariables false

/-- What is read is put as these bytes. -/
theorem numR_one {b : List Int} (hu : ∀ x ∈ b, 0 ≤ x ∧ x < 256) {most : Int} (h : (numR b most).2.2 = 0) : 0 ≤ (numR b most).1 ∧ (numR b most).1 < 18446744073709551616 ∧ b = numB (numR b most).1 ++ (numR b most).2.1 := by
  cases b with
  | nil => simp [numR] at h
  | cons k r =>
    have hk := hu k List.mem_cons_self
    have hur := fun x hx => hu x (List.mem_cons_of_mem k hx)
    unfold numR at h ⊢
    simp only at h ⊢
    split at h
    · simp at h
    split at h
    · simp at h
    split at h
    · simp at h
    split at h
    · simp at h
    rename_i h1 h2 h3 h4
    rw [if_neg h1, if_neg h2, if_neg h3, if_neg h4]
    obtain ⟨kk, rfl⟩ : ∃ kk : Nat, k = kk := ⟨k.toNat, by omega⟩
    simp only [Int.toNat_natCast]
    have hut : ∀ x ∈ r.take kk, 0 ≤ x ∧ x < 256 := fun x hx => hur x (List.mem_of_mem_take hx)
    have hlt : (r.take kk).length = kk := by simp; omega
    have hb := valI_bnd (r.take kk) hut
    rw [hlt] at hb
    have hp : (256 : Int) ^ kk ≤ 256 ^ 8 := by
      have : (256 : Nat) ^ kk ≤ 256 ^ 8 := Nat.pow_le_pow_right (by omega) (by omega)
      rw [← p256 kk, ← p256 8]; exact Int.ofNat_le.2 this
    have h8 : (256 : Int) ^ 8 = 18446744073709551616 := rfl
    refine ⟨hb.1, by omega, ?_⟩
    have hle : leI 8 (valI (r.take kk)) = r.take kk := by
      refine le_valI _ 8 (by omega) hut fun hne q => h3 ⟨?_, ?_⟩
      · have := List.length_pos_iff.2 hne; omega
      · have hpos := List.length_pos_iff.2 hne
        rw [List.getLast_eq_getElem] at q
        simp only [hlt, List.getElem_take] at q
        have e : ((kk : Int) - 1).toNat = kk - 1 := by omega
        rw [e, List.getD_eq_getElem?_getD, List.getElem?_eq_getElem (by omega)]
        simpa using q
    unfold numB
    rw [hle, hlt, List.cons_append, List.take_append_drop]

section
variable {x0 : AV} {s0 : Store} {id mid : Nat} {b : List Int}

end

end Go.Proofs.Ytkfdgegmahbkiaa.Sim
namespace Go.Proofs.Ytkfdgegmahbkiaa.Sim
set_option linter.unusedSimpArgs false
set_option linter.unusedVariables false

section
variable {s t : Store} {a : Nat} {w : AV} {y : Int}
theorem ldN {p q : AV} (hg : s.get a = .cells [p, q] false) {α : Type} (f : AV → Option α) : aLoadN 2 (.ptr a 0 2) s f = f (.agg [p, q]) := load_n hg rfl (Nat.le_refl _)
theorem stN {cs : List AV} (p q : AV) (hg : s.get a = .cells cs false) (hc : cs.length = 2) {α : Type} (f : Store → Option α) : aStore 2 (.ptr a 0 2) (.agg [p, q]) s f = f (s.set a (.cells [p, q] false)) := by
  match cs, hc with
  | [u, v], _ => simp [aStore, aCells, aOwn, hg, putAll]
end

/-- The document's way to know that a number has one writing. -/
theorem one_writing {r : List Int} {kk : Nat} (hu : ∀ x ∈ r, 0 ≤ x ∧ x < 256) (h8 : kk ≤ 8) (hr : kk ≤ r.length) : (numB (valI (r.take kk)) = ((kk : Int) :: r).take (kk + 1)) ↔ ¬ ((kk : Int) > 0 ∧ r.getD ((kk : Int) - 1).toNat 0 = 0) := by
  have hut : ∀ x ∈ r.take kk, 0 ≤ x ∧ x < 256 := fun x hx => hu x (List.mem_of_mem_take hx)
  have hlt : (r.take kk).length = kk := by simp; omega
  have hb := valI_bnd (r.take kk) hut
  rw [hlt] at hb
  have hp : (256 : Int) ^ kk ≤ 256 ^ 8 := by
    have : (256 : Nat) ^ kk ≤ 256 ^ 8 := Nat.pow_le_pow_right (by omega) h8
    rw [← p256 kk, ← p256 8]; exact Int.ofNat_le.2 this
  have elast : ∀ hne : r.take kk ≠ [], (r.take kk).getLast hne = r.getD ((kk : Int) - 1).toNat 0 := by
    intro hne
    have hpos := List.length_pos_iff.2 hne
    rw [List.getLast_eq_getElem]
    simp only [hlt, List.getElem_take]
    have e : ((kk : Int) - 1).toNat = kk - 1 := by omega
    rw [e, List.getD_eq_getElem?_getD, List.getElem?_eq_getElem (by omega)]
    rfl
  rw [List.take_succ_cons]
  unfold numB
  constructor
  · intro h q
    obtain ⟨q1, q2⟩ := q
    obtain ⟨_, h2⟩ := List.cons.inj h
    have hne : r.take kk ≠ [] := fun z => by rw [z] at hlt; simp at hlt; omega
    have hne2 : leI 8 (valI (r.take kk)) ≠ [] := by rw [h2]; exact hne
    have := leI_last 8 (valI (r.take kk)) hb.1 (by omega) hne2
    apply this
    have e : (leI 8 (valI (r.take kk))).getLast hne2 = (r.take kk).getLast hne := by congr 1
    rw [e, elast hne, q2]
  · intro h
    have hle : leI 8 (valI (r.take kk)) = r.take kk := le_valI _ 8 (by omega) hut fun hne q => h ⟨by have := List.length_pos_iff.2 hne; omega, by rw [← elast hne]; exact q⟩
    rw [hle, hlt]

section
variable {s : Store} {a c : Nat} {bv x1 : AV} {b : List Int}

theorem rr_loop (k : Nat) {r : List Int} {kk : Nat} (hg : s.get a = .cells [bv, .int .i64 0] false) (hv : IsV s bv .u8 ((kk : Int) :: r)) (hu : ∀ x ∈ r, 0 ≤ x ∧ x < 256) (h8 : kk ≤ 8) (hr : kk ≤ r.length) {x5 : AV} : ∀ (n i : Nat), i ≤ kk → i < n →
    F22.l0 k n x1 (.ptr a 0 2) x5 (.int .i64 kk) (.int .u64 (valI ((r.take kk).drop i))) (.int .i64 i) s = F22.p14 k x1 (.ptr a 0 2) x5 (.int .i64 kk) (.int .u64 (valI (r.take kk))) s
  | 0, i, hi, hn => by omega
  | n + 1, i, hi, hn => by
    have hs : F22.l0 k (n + 1) = fun x1 x2 x5 x6 x7 x8 s => F22.p17 k (F22.l0 k n) x1 x2 x5 x6 x7 x8 s := rfl
    rw [hs]
    clear hs
    simp only
    unfold F22.p17
    rw [gtr_i]
    by_cases h : i = 0
    · subst h
      rw [decide_eq_false (by omega), if_f, List.drop_zero]
    · rw [decide_eq_true (by omega), if_t]
      unfold F22.p16 F22.p15
      obtain ⟨j, rfl⟩ : ∃ j, i = j + 1 := ⟨i - 1, by omega⟩
      obtain ⟨p, p1, p2⟩ := atV hv (i := ((j + 1 : Nat) : Int)) (by omega) (by simp only [List.length_cons]; omega)
      have hj : j < r.length := by omega
      have eg : ((kk : Int) :: r).getD (((j + 1 : Nat) : Int)).toNat 0 = r[j] := by rw [Int.toNat_natCast]; simp [hj]
      have hut : ∀ x ∈ (r.take kk).drop (j + 1), 0 ≤ x ∧ x < 256 := fun x hx => hu x (List.mem_of_mem_take (List.mem_of_mem_drop hx))
      have hb := valI_bnd _ hut
      have hlen : ((r.take kk).drop (j + 1)).length ≤ 7 := by simp; omega
      have hp : (256 : Int) ^ ((r.take kk).drop (j + 1)).length ≤ 256 ^ 7 := by
        have : (256 : Nat) ^ ((r.take kk).drop (j + 1)).length ≤ 256 ^ 7 := Nat.pow_le_pow_right (by omega) hlen
        rw [← p256, ← p256 7]; exact Int.ofNat_le.2 this
      have h7 : (256 : Int) ^ 7 = 72057594037927936 := rfl
      have hx := hu _ (List.getElem_mem hj)
      have hm : ∀ {α : Type} (v : Int), 0 ≤ v → v < 72057594037927936 → ∀ (f : AV → Option α), aBin .mul (.int .u64 256) (.int .u64 v) f = f (.int .u64 (256 * v)) := by
        intro α v h1 h2 f
        simp only [aBin, intBin, if_true, w_u64 (show 0 ≤ 256 * v by omega) (show 256 * v < 18446744073709551616 by omega)]
      rw [hm _ hb.1 (by omega), fld_p, ld_f0 hg, p1, p2, eg, conv_i, w_u64 (by omega) (by omega), add_i, w_u64 (by omega) (by omega), sub_i]
      have hw : IntKind.i64.wrap (((j + 1 : Nat) : Int) - 1) = (j : Int) := by rw [w_i64 (by omega) (by omega)]; omega
      have hjt : j < (r.take kk).length := by simp; omega
      have e : 256 * valI ((r.take kk).drop (j + 1)) + r[j] = valI ((r.take kk).drop j) := by
        rw [List.drop_eq_getElem_cons hjt, valI, List.getElem_take]; omega
      rw [hw, e]
      exact rr_loop k hg hv hu h8 hr (x5 := x5) n j (by omega) (by omega)

theorem rr_num {e most : Int} (hv : IsV s bv .u8 b) (hu : ∀ x ∈ b, 0 ≤ x ∧ x < 256) (hb : b.length ≤ 1000000) (k : Nat) (hk : 50 ≤ k) (hk2 : k ≤ 90000) : ∃ lv s', rn (k + 2) 22 [.agg [bv, .int .i64 e], .int .u64 most] s = some (.tuple [.int .u64 (rdNum b e most).1, .agg [lv, .int .i64 (rdNum b e most).2.2]], s') ∧ IsV s lv .u8 (rdNum b e most).2.1 ∧ (∀ a b c d f, lv = .sl a b c d f → ∃ b c d f, bv = .sl a b c d f) ∧ Ext s s' := by
  rw [F22.eq]
  unfold F22.f F22.p44
  rw [cells_agg, new_s, new_s]
  simp only [List.length_cons, List.length_nil, Nat.zero_add, Nat.reduceAdd]
  obtain ⟨a, ha⟩ : ∃ a, a = s.next := ⟨_, rfl⟩
  have e0 : Ext s ((s.push (.cells [bv, .int .i64 e] false)).push (.cells [.nilsl, .int .i64 0] false)) := (Ext.push _ _).trans (Ext.push _ _)
  have ga : ((s.push (.cells [bv, .int .i64 e] false)).push (.cells [.nilsl, .int .i64 0] false)).get a = .cells [bv, .int .i64 e] false := by grind [get_push, next_push]
  have gc : ((s.push (.cells [bv, .int .i64 e] false)).push (.cells [.nilsl, .int .i64 0] false)).get (a + 1) = .cells [.nilsl, .int .i64 0] false := by grind [get_push, next_push]
  have nx : ((s.push (.cells [bv, .int .i64 e] false)).push (.cells [.nilsl, .int .i64 0] false)).next = a + 2 := by rw [ha]; rfl
  rw [show (s.push (.cells [bv, .int .i64 e] false)).next = s.next + 1 from rfl, ← ha]
  generalize (s.push (.cells [bv, .int .i64 e] false)).push (.cells [.nilsl, .int .i64 0] false) = s5 at *
  have hv5 := hv.ext e0
  -- what is handed back
  have bad : ∀ y : Int, ∃ s', Ext s s' ∧ (∀ {α : Type} (f : AV → Option α), aLoadN 2 (.ptr a 0 2) (s5.set a (.cells [bv, .int .i64 y] false)) f = f (.agg [bv, .int .i64 y])) ∧ (∀ {α : Type} (f : Store → Option α), aStore 2 (.ptr (a + 1) 0 2) (.agg [bv, .int .i64 y]) (s5.set a (.cells [bv, .int .i64 y] false)) f = f s') ∧ ∀ {α : Type} (f : AV → Option α), aLoadN 2 (.ptr (a + 1) 0 2) s' f = f (.agg [bv, .int .i64 y]) := by
    intro y
    have g1 : (s5.set a (.cells [bv, .int .i64 y] false)).get a = .cells [bv, .int .i64 y] false := by rw [get_set, if_pos rfl]
    have g2 : (s5.set a (.cells [bv, .int .i64 y] false)).get (a + 1) = .cells [.nilsl, .int .i64 0] false := by rw [get_set, if_neg (by omega)]; exact gc
    refine ⟨(s5.set a (.cells [bv, .int .i64 y] false)).set (a + 1) (.cells [bv, .int .i64 y] false), ⟨e0.next, fun l hl => ?_⟩, fun f => ldN g1 f, fun f => stN _ _ g2 rfl f, fun f => ldN (by rw [get_set, if_pos rfl]) f⟩
    rw [get_set, if_neg (by omega), get_set, if_neg (by omega)]; exact e0.get l hl
  have st1 : ∀ (y : Int) {α : Type} (f : Store → Option α), e = 0 → aStore 1 (.ptr a (0 + 1) 2) (.int .i64 y) s5 f = f (s5.set a (.cells [bv, .int .i64 y] false)) := fun y α f h => st_f1 ga f
  unfold F22.p43 F22.p42 rdNum
  rw [fld_p, ld_f1 ga, neq_i]
  by_cases he : e = 0
  · subst he
    rw [show ((0 : Int) != 0) = false from rfl, if_f, if_neg (by simp)]
    unfold F22.p41 F22.p38 F22.p37
    rw [fld_p, ld_f0 ga, lenV hv5, eql_i]
    cases b with
    | nil =>
      rw [show (((([] : List Int).length : Nat) : Int) == 0) = true from rfl, if_t]
      obtain ⟨s', b1, b2, b3, b4⟩ := bad 2
      unfold F22.p35 F22.p34 F22.p33
      simp only [bnd, guard_tt, guard_ff, guard_tf, guard_ft, pick_t, pick_f, if_t, if_f, add_i, sub_i, lss_i, leq_i, gtr_i, geq_i, eql_i, neq_i, min_i, max_i, conv_i, len_sl, len_nil, not_b, cells_agg, new_s, fld_p, nil_p, st1 2 _ rfl, b2, b3, b4]
      exact ⟨bv, s', rfl, hv, fun i x c d f q => ⟨_, _, _, _, q⟩, b1⟩
    | cons k0 r =>
      have hk0 := hu k0 List.mem_cons_self
      have hur := fun x hx => hu x (List.mem_cons_of_mem k0 hx)
      have hz : ((((k0 :: r).length : Nat) : Int) == 0) = false := beq_eq_false_iff_ne.2 (by simp only [List.length_cons]; omega)
      rw [hz, if_f]
      unfold F22.p36 F22.p32 F22.p31 F22.p30
      obtain ⟨p, p1, p2⟩ := atV hv5 (show (0 : Int) ≤ 0 by omega) (by simp only [List.length_cons]; omega)
      rw [fld_p, ld_f0 ga, p1, p2, show (k0 :: r).getD (0 : Int).toNat 0 = k0 from rfl, conv_i, w_i64 (by omega) (by omega), gtr_i]
      by_cases h1 : k0 > 8
      · have eR : numR (k0 :: r) most = (0, [], 3) := by unfold numR; simp only; rw [if_pos h1]
        rw [decide_eq_true h1, if_t, eR, if_pos (by simp)]
        obtain ⟨s', b1, b2, b3, b4⟩ := bad 3
        unfold F22.p28 F22.p27 F22.p26
        simp only [bnd, guard_tt, guard_ff, guard_tf, guard_ft, pick_t, pick_f, if_t, if_f, add_i, sub_i, lss_i, leq_i, gtr_i, geq_i, eql_i, neq_i, min_i, max_i, conv_i, len_sl, len_nil, not_b, cells_agg, new_s, fld_p, nil_p, st1 3 _ rfl, b2, b3, b4]
        exact ⟨bv, s', rfl, hv, fun i x c d f q => ⟨_, _, _, _, q⟩, b1⟩
      · rw [decide_eq_false h1, if_f]
        unfold F22.p29 F22.p25 F22.p24
        have hlen : IntKind.i64.wrap ((((k0 :: r).length : Nat) : Int) - 1) = (r.length : Int) := by
          simp only [List.length_cons] at hb ⊢
          rw [w_i64 (by omega) (by omega)]; omega
        rw [fld_p, ld_f0 ga, lenV hv5, sub_i, hlen, lss_i]
        by_cases h2 : k0 > (r.length : Int)
        · have eR : numR (k0 :: r) most = (0, [], 2) := by unfold numR; simp only; rw [if_neg h1, if_pos h2]
          rw [decide_eq_true (show (r.length : Int) < k0 from h2), if_t, eR, if_pos (by simp)]
          obtain ⟨s', b1, b2, b3, b4⟩ := bad 2
          unfold F22.p22 F22.p21 F22.p20
          simp only [bnd, guard_tt, guard_ff, guard_tf, guard_ft, pick_t, pick_f, if_t, if_f, add_i, sub_i, lss_i, leq_i, gtr_i, geq_i, eql_i, neq_i, min_i, max_i, conv_i, len_sl, len_nil, not_b, cells_agg, new_s, fld_p, nil_p, st1 2 _ rfl, b2, b3, b4]
          exact ⟨bv, s', rfl, hv, fun i x c d f q => ⟨_, _, _, _, q⟩, b1⟩
        · rw [decide_eq_false (show ¬ (r.length : Int) < k0 from h2), if_f]
          obtain ⟨kk, hkk⟩ : ∃ kk : Nat, k0 = kk := ⟨k0.toNat, by omega⟩
          subst hkk
          have hk8 : kk ≤ 8 := by omega
          have hkr : kk ≤ r.length := by omega
          unfold F22.p23 F22.p19 F22.p18
          have hl := rr_loop (k + 1) (x1 := .int .u64 most) (x5 := .ptr (a + 1) 0 2) ga hv5 hur hk8 hkr (k + 1) kk (Nat.le_refl _) (by omega)
          have hd0 : (r.take kk).drop kk = [] := List.drop_eq_nil_of_le (by rw [List.length_take]; omega)
          rw [hd0, show valI [] = 0 from rfl] at hl
          rw [hl]
          have hut : ∀ x ∈ r.take kk, 0 ≤ x ∧ x < 256 := fun x hx => hur x (List.mem_of_mem_take hx)
          have hlt : (r.take kk).length = kk := by simp; omega
          have hbv := valI_bnd (r.take kk) hut
          rw [hlt] at hbv
          have hp : (256 : Int) ^ kk ≤ 256 ^ 8 := by
            have : (256 : Nat) ^ kk ≤ 256 ^ 8 := Nat.pow_le_pow_right (by omega) hk8
            rw [← p256 kk, ← p256 8]; exact Int.ofNat_le.2 this
          have h8 : (256 : Int) ^ 8 = 18446744073709551616 := rfl
          obtain ⟨nv, s6, k6, o6, e6⟩ := rnum_run (s := s5) (n := valI (r.take kk)) hbv.1 (by omega) k (by omega) (by omega)
          have ga6 : s6.get a = .cells [bv, .int .i64 0] false := (e6.get a (by omega)).trans ga
          have gc6 : s6.get (a + 1) = .cells [.nilsl, .int .i64 0] false := (e6.get (a + 1) (by omega)).trans gc
          have e06 := e0.trans e6
          obtain ⟨tv, t1, _, t3, t2, _⟩ := sliceV hv5 (a := 0) (b := kk + 1) (Nat.zero_le _) (by simp only [List.length_cons]; omega)
          have t2' : ∀ {α : Type} (f : AV → Option α), aSliceSl 1 bv none (some (.int .i64 ((kk + 1 : Nat) : Int))) f = f tv := fun f => t2 rfl .i64 f
          have t1' : IsV s5 tv .u8 (((kk : Int) :: r).take (kk + 1)) := by simpa using t1
          have hwk : IntKind.i64.wrap ((kk : Int) + 1) = ((kk + 1 : Nat) : Int) := by rw [w_i64 (by omega) (by omega)]; omega
          have huB : ∀ x ∈ ((kk : Int) :: r).take (kk + 1), 0 ≤ x ∧ x < 256 := fun x hx => hu x (List.mem_of_mem_take hx)
          unfold F22.p14
          simp only [bnd, guard_tt, guard_ff, guard_tf, guard_ft, pick_t, pick_f, if_t, if_f, add_i, sub_i, lss_i, leq_i, gtr_i, geq_i, eql_i, neq_i, min_i, max_i, conv_i, len_sl, len_nil, not_b, cells_agg, new_s, fld_p, nil_p, k6, strV o6.is, ld_f0 ga6, ld_f0 ga, aSame_self, hwk, t2', strV (t1'.ext e6), strV t1', ne_str (numB_u8 _) huB]
          unfold F22.p13
          -- what is handed back, behind the store that Num has left
          have bad6 : ∀ y : Int, ∃ s', Ext s s' ∧ (∀ {α : Type} (f : Store → Option α), aStore 1 (.ptr a (0 + 1) 2) (.int .i64 y) s6 f = f (s6.set a (.cells [bv, .int .i64 y] false))) ∧ (∀ {α : Type} (f : AV → Option α), aLoadN 2 (.ptr a 0 2) (s6.set a (.cells [bv, .int .i64 y] false)) f = f (.agg [bv, .int .i64 y])) ∧ (∀ {α : Type} (f : Store → Option α), aStore 2 (.ptr (a + 1) 0 2) (.agg [bv, .int .i64 y]) (s6.set a (.cells [bv, .int .i64 y] false)) f = f s') ∧ ∀ {α : Type} (f : AV → Option α), aLoadN 2 (.ptr (a + 1) 0 2) s' f = f (.agg [bv, .int .i64 y]) := by
            intro y
            have g1 : (s6.set a (.cells [bv, .int .i64 y] false)).get a = .cells [bv, .int .i64 y] false := by rw [get_set, if_pos rfl]
            have g2 : (s6.set a (.cells [bv, .int .i64 y] false)).get (a + 1) = .cells [.nilsl, .int .i64 0] false := by rw [get_set, if_neg (by omega)]; exact gc6
            refine ⟨(s6.set a (.cells [bv, .int .i64 y] false)).set (a + 1) (.cells [bv, .int .i64 y] false), ⟨e06.next, fun l hl => ?_⟩, fun f => st_f1 ga6 f, fun f => ldN g1 f, fun f => stN _ _ g2 rfl f, fun f => ldN (by rw [get_set, if_pos rfl]) f⟩
            rw [get_set, if_neg (by omega), get_set, if_neg (by omega)]; exact e06.get l hl
          have how := one_writing hur hk8 hkr
          by_cases h3 : (kk : Int) > 0 ∧ r.getD ((kk : Int) - 1).toNat 0 = 0
          · have eR : numR ((kk : Int) :: r) most = (0, [], 3) := by unfold numR; simp only; rw [if_neg h1, if_neg h2, if_pos h3]
            have hne : ¬ numB (valI (r.take kk)) = ((kk : Int) :: r).take (kk + 1) := fun q => (how.1 q) h3
            rw [decide_eq_false hne, eR, if_pos (by simp)]
            obtain ⟨s', b1, b0, b2, b3, b4⟩ := bad6 3
            unfold F22.p11 F22.p10 F22.p9
            simp only [Bool.not_false, bnd, guard_tt, guard_ff, guard_tf, guard_ft, pick_t, pick_f, if_t, if_f, add_i, sub_i, lss_i, leq_i, gtr_i, geq_i, eql_i, neq_i, min_i, max_i, conv_i, len_sl, len_nil, not_b, cells_agg, new_s, fld_p, nil_p, b0, b2, b3, b4]
            exact ⟨bv, s', rfl, hv, fun i x c d f q => ⟨_, _, _, _, q⟩, b1⟩
          · have heq : numB (valI (r.take kk)) = ((kk : Int) :: r).take (kk + 1) := how.2 h3
            rw [decide_eq_true heq]
            unfold F22.p12 F22.p8 F22.p7
            simp only [Bool.not_true, bnd, guard_tt, guard_ff, guard_tf, guard_ft, pick_t, pick_f, if_t, if_f, add_i, sub_i, lss_i, leq_i, gtr_i, geq_i, eql_i, neq_i, min_i, max_i, conv_i, len_sl, len_nil, not_b, cells_agg, new_s, fld_p, nil_p]
            by_cases h4 : valI (r.take kk) > most
            · have eR : numR ((kk : Int) :: r) most = (0, [], 6) := by unfold numR; simp only [Int.toNat_natCast]; rw [if_neg h1, if_neg h2, if_neg h3, if_pos h4]
              rw [decide_eq_true h4, if_t, eR, if_pos (by simp)]
              obtain ⟨s', b1, b0, b2, b3, b4⟩ := bad6 6
              unfold F22.p5 F22.p4 F22.p3
              simp only [bnd, guard_tt, guard_ff, guard_tf, guard_ft, pick_t, pick_f, if_t, if_f, add_i, sub_i, lss_i, leq_i, gtr_i, geq_i, eql_i, neq_i, min_i, max_i, conv_i, len_sl, len_nil, not_b, cells_agg, new_s, fld_p, nil_p, b0, b2, b3, b4]
              exact ⟨bv, s', rfl, hv, fun i x c d f q => ⟨_, _, _, _, q⟩, b1⟩
            · have eR : numR ((kk : Int) :: r) most = (valI (r.take kk), r.drop kk, 0) := by unfold numR; simp only [Int.toNat_natCast]; rw [if_neg h1, if_neg h2, if_neg h3, if_neg h4]
              rw [decide_eq_false h4, if_f, eR, if_neg (by simp)]
              unfold F22.p6 F22.p2 F22.p1 F22.p0
              obtain ⟨lv, l1, _, l3, _, l2⟩ := sliceV hv (a := kk + 1) (b := ((kk : Int) :: r).length) (by simp only [List.length_cons]; omega) (Nat.le_refl _)
              have l2' : ∀ {α : Type} (f : AV → Option α), aSliceSl 1 bv (some (.int .i64 ((kk + 1 : Nat) : Int))) none f = f lv := fun f => l2 rfl .i64 f
              have l1' : IsV s lv .u8 (r.drop kk) := by
                have e : ((((kk : Int) :: r).drop (kk + 1)).take (((kk : Int) :: r).length - (kk + 1))) = r.drop kk := by
                  rw [List.drop_succ_cons]; exact List.take_of_length_le (by simp)
                rw [e] at l1; exact l1
              have g1 : (s6.set a (.cells [lv, .int .i64 0] false)).get a = .cells [lv, .int .i64 0] false := by rw [get_set, if_pos rfl]
              have g2 : (s6.set a (.cells [lv, .int .i64 0] false)).get (a + 1) = .cells [.nilsl, .int .i64 0] false := by rw [get_set, if_neg (by omega)]; exact gc6
              have g3 : ((s6.set a (.cells [lv, .int .i64 0] false)).set (a + 1) (.cells [lv, .int .i64 0] false)).get (a + 1) = .cells [lv, .int .i64 0] false := by rw [get_set, if_pos rfl]
              simp only [bnd, guard_tt, guard_ff, guard_tf, guard_ft, pick_t, pick_f, if_t, if_f, add_i, sub_i, lss_i, leq_i, gtr_i, geq_i, eql_i, neq_i, min_i, max_i, conv_i, len_sl, len_nil, not_b, cells_agg, new_s, fld_p, nil_p, ld_f0 ga6, hwk, l2', st_f0 ga6 l1', ldN g1, stN _ _ g2 rfl, ldN g3]
              exact ⟨lv, _, rfl, l1', l3, ⟨e06.next, fun l hl => by rw [get_set, if_neg (by omega), get_set, if_neg (by omega)]; exact e06.get l hl⟩⟩
  · have he' : (e != 0) = true := by simpa using he
    rw [he', if_t, if_pos he]
    unfold F22.p40 F22.p39
    have g3 : (s5.set (a + 1) (.cells [bv, .int .i64 e] false)).get (a + 1) = .cells [bv, .int .i64 e] false := by rw [get_set, if_pos rfl]
    simp only [bnd, guard_tt, guard_ff, guard_tf, guard_ft, pick_t, pick_f, if_t, if_f, add_i, sub_i, lss_i, leq_i, gtr_i, geq_i, eql_i, neq_i, min_i, max_i, conv_i, len_sl, len_nil, not_b, cells_agg, new_s, fld_p, nil_p, ldN ga, stN _ _ gc rfl, ldN g3]
    exact ⟨bv, _, rfl, hv, fun i x c d f q => ⟨_, _, _, _, q⟩, ⟨e0.next, fun l hl => by rw [get_set, if_neg (by omega)]; exact e0.get l hl⟩⟩
end
end Go.Proofs.Ytkfdgegmahbkiaa.Sim
namespace Go.Proofs.Ytkfdgegmahbkiaa.Sim
set_option linter.unusedSimpArgs false
set_option linter.unusedVariables false

theorem rr_end {s : Store} {bv : AV} {b : List Int} {e : Int} (hv : IsV s bv .u8 b) (k : Nat) : ∃ s', rn (k + 1) 25 [.agg [bv, .int .i64 e]] s = some (.int .i64 (endR b e), s') ∧ Ext s s' := by
  rw [F25.eq]
  unfold F25.f F25.p0 endR
  rw [cells_agg, new_s]
  have e1 := Ext.push s (.cells [bv, .int .i64 e] false)
  have g : (s.push (.cells [bv, .int .i64 e] false)).get s.next = .cells [bv, .int .i64 e] false := by rw [get_push, if_pos rfl]
  simp only [List.length_cons, List.length_nil, Nat.zero_add, Nat.reduceAdd]
  generalize s.push (.cells [bv, .int .i64 e] false) = s1 at *
  rw [fld_p, ld_f1 g, eql_i]
  by_cases he : e = 0
  · subst he
    simp only [beq_self_eq_true, bnd, guard_tt, guard_ff, guard_tf, guard_ft, pick_t, pick_f, if_t, if_f, add_i, sub_i, lss_i, leq_i, gtr_i, geq_i, eql_i, neq_i, min_i, max_i, conv_i, len_sl, len_nil, not_b, cells_agg, new_s, fld_p, nil_p, ld_f0 g, lenV (hv.ext e1)]
    by_cases hb : 0 < b.length
    · rw [decide_eq_true (show (b.length : Int) > 0 by omega), if_t]
      exact ⟨s1, by simp [hb], e1⟩
    · rw [decide_eq_false (show ¬ (b.length : Int) > 0 by omega), if_f, ld_f1 g]
      exact ⟨s1, by simp [hb], e1⟩
  · have he' : (e == 0) = false := by simpa using he
    simp only [he', bnd, guard_tt, guard_ff, guard_tf, guard_ft, pick_t, pick_f, if_t, if_f, add_i, sub_i, lss_i, leq_i, gtr_i, geq_i, eql_i, neq_i, min_i, max_i, conv_i, len_sl, len_nil, not_b, cells_agg, new_s, fld_p, nil_p, ld_f1 g]
    exact ⟨s1, by rw [if_neg (fun q => he q.1)], e1⟩

section
variable {s t : Store} {a d : Nat} {bv lv : AV} {b left : List Int} {e y : Int}

/-- The end, where there is an error. -/
theorem rr_bad (k : Nat) {x6 : AV} (hy : y ≠ 0) (ga : t.get a = .cells [bv, .int .i64 e] false) (gc : t.get (a + 1) = .cells [.nilsl, .int .i64 0] false) (gd : t.get d = .cells [lv, .int .i64 y] false) (had : a + 1 < d) (hdn : d < t.next) (hlt : ∀ i x c z f, bv = .sl i x c z f → i < a) (hv : IsV t bv .u8 b) :
    ∃ rv t', F52.p9 k (.ptr a 0 2) (.ptr (a + 1) 0 2) x6 (.ptr d 0 2) t = some (.tuple [rv, .agg [bv, .int .i64 y]], t') ∧ IsV t' rv .u8 [] ∧ IsV t' bv .u8 b ∧ t.next ≤ t'.next ∧ (∀ l, l < a → t'.get l = t.get l) ∧ ∀ i x c z f, rv = .sl i x c z f → t.next ≤ i := by
  unfold F52.p9 F52.p8 F52.p6 F52.p5 F52.p4
  have hy' : (y != 0) = true := by simpa using hy
  rw [fld_p, ld_f1 gd, neq_i, hy', if_t, fld_p, ld_f1 gd, fld_p, st_f1 ga]
  have g1 : (t.set a (.cells [bv, .int .i64 y] false)).get a = .cells [bv, .int .i64 y] false := by rw [get_set, if_pos rfl]
  have n1 : (t.set a (.cells [bv, .int .i64 y] false)).next = t.next := rfl
  have gc1 : (t.set a (.cells [bv, .int .i64 y] false)).get (a + 1) = .cells [.nilsl, .int .i64 0] false := by rw [get_set, if_neg (by omega)]; exact gc
  have fr1 : ∀ l, l ≠ a → (t.set a (.cells [bv, .int .i64 y] false)).get l = t.get l := fun l hl => by rw [get_set, if_neg hl]
  generalize t.set a (.cells [bv, .int .i64 y] false) = t1 at *
  have e2 := Ext.push t1 (.cells [] false)
  have g2 := (e2.get a (by omega)).trans g1
  have gc2 := (e2.get (a + 1) (by omega)).trans gc1
  have n2 : (t1.push (.cells [] false)).next = t1.next + 1 := rfl
  have g0 : (t1.push (.cells [] false)).get t1.next = .cells [] false := by rw [get_push, if_pos rfl]
  rw [build_0]
  simp only [bnd, guard_tt, guard_ff, guard_tf, guard_ft, pick_t, pick_f, if_t, if_f, add_i, sub_i, lss_i, leq_i, gtr_i, geq_i, eql_i, neq_i, min_i, max_i, conv_i, len_sl, len_nil, not_b, cells_agg, new_s, fld_p, nil_p]
  generalize t1.push (.cells [] false) = t2 at *
  have g3 : (t2.set (a + 1) (.cells [bv, .int .i64 y] false)).get (a + 1) = .cells [bv, .int .i64 y] false := by rw [get_set, if_pos rfl]
  simp only [bnd, guard_tt, guard_ff, guard_tf, guard_ft, pick_t, pick_f, if_t, if_f, add_i, sub_i, lss_i, leq_i, gtr_i, geq_i, eql_i, neq_i, min_i, max_i, conv_i, len_sl, len_nil, not_b, cells_agg, new_s, fld_p, nil_p, ldN g2, ldN g1, aSame_self, stN _ _ gc2 rfl, ldN g3]
  have fr : ∀ l, l < t.next → l ≠ a → l ≠ a + 1 → (t2.set (a + 1) (.cells [bv, .int .i64 y] false)).get l = t.get l := fun l h0 h1 h2 => by rw [get_set, if_neg h2, e2.get l (by omega)]; exact fr1 l h1
  refine ⟨_, _, rfl, .inr ⟨t1.next, 0, [], false, rfl, by rw [next_set, n2]; omega, by rw [get_set, if_neg (by omega)]; exact g0, by simp, rfl⟩, ?_, by rw [next_set]; omega, fun l hl => fr l (by omega) (by omega) (by omega), fun i x c z f q => by cases q; omega⟩
  rcases hv with q | ⟨l, off, ys, ro, q1, q2, q3, q4⟩
  · exact .inl q
  · have := hlt _ _ _ _ _ q1
    exact .inr ⟨l, off, ys, ro, q1, by rw [next_set]; omega, by rw [fr l q2 (by omega) (by omega)]; exact q3, q4⟩
end

theorem rr_row {s : Store} {bv : AV} {b : List Int} {e most : Int} (hv : IsV s bv .u8 b) (hu : ∀ x ∈ b, 0 ≤ x ∧ x < 256) (hb : b.length ≤ 1000000) (hm : most < 9223372036854775808) (k : Nat) (hk : 50 ≤ k) (hk2 : k ≤ 90000) : ∃ rv lv s', rn (k + 3) 52 [.agg [bv, .int .i64 e], .int .i64 most] s = some (.tuple [rv, .agg [lv, .int .i64 (rdRow b e most).2.2]], s') ∧ IsV s' rv .u8 (rdRow b e most).1 ∧ IsV s' lv .u8 (rdRow b e most).2.1 ∧ (∀ a b c d f, lv = .sl a b c d f → ∃ b c d f, bv = .sl a b c d f) ∧ Ext s s' ∧ ∀ i b c d f, rv = .sl i b c d f → (∃ b c d f, bv = .sl i b c d f) ∨ s.next ≤ i := by
  rw [F52.eq]
  unfold F52.f F52.p14
  rw [cells_agg, new_s, new_s]
  simp only [List.length_cons, List.length_nil, Nat.zero_add, Nat.reduceAdd]
  obtain ⟨a, ha⟩ : ∃ a, a = s.next := ⟨_, rfl⟩
  have e0 : Ext s ((s.push (.cells [bv, .int .i64 e] false)).push (.cells [.nilsl, .int .i64 0] false)) := (Ext.push _ _).trans (Ext.push _ _)
  have ga : ((s.push (.cells [bv, .int .i64 e] false)).push (.cells [.nilsl, .int .i64 0] false)).get a = .cells [bv, .int .i64 e] false := by grind [get_push, next_push]
  have gc : ((s.push (.cells [bv, .int .i64 e] false)).push (.cells [.nilsl, .int .i64 0] false)).get (a + 1) = .cells [.nilsl, .int .i64 0] false := by grind [get_push, next_push]
  have nx : ((s.push (.cells [bv, .int .i64 e] false)).push (.cells [.nilsl, .int .i64 0] false)).next = a + 2 := by rw [ha]; rfl
  rw [show (s.push (.cells [bv, .int .i64 e] false)).next = s.next + 1 from rfl, ← ha]
  generalize (s.push (.cells [bv, .int .i64 e] false)).push (.cells [.nilsl, .int .i64 0] false) = s5 at *
  have hv5 := hv.ext e0
  have hvlt : ∀ i x c z f, bv = .sl i x c z f → i < a := fun i x c z f q => by have := hv.lt i x c z f q; omega
  have h13 : F52.p13 (k + 2) (.int .i64 most) (.ptr a 0 2) (.ptr (a + 1) 0 2) s5 = F52.p12 (k + 2) (.int .i64 (max most 0)) (.ptr a 0 2) (.ptr (a + 1) 0 2) s5 := by
    unfold F52.p13
    rw [lss_i]
    by_cases h : most < 0
    · rw [decide_eq_true h, if_t, show max most 0 = 0 by omega]
    · rw [decide_eq_false h, if_f, show max most 0 = most by omega]
  rw [h13]
  unfold F52.p12
  obtain ⟨lv, s6, k6, v6, l6, e6⟩ := rr_num (e := e) (most := 18446744073709551615) hv5 hu hb k hk hk2
  have ga6 := (e6.get a (by omega)).trans ga
  have gc6 := (e6.get (a + 1) (by omega)).trans gc
  have ex : ∀ (x y : AV) {α : Type} (f : AV → Option α), aExtract 0 (.tuple [x, y]) f = f x ∧ aExtract 1 (.tuple [x, y]) f = f y := fun x y α f => ⟨rfl, rfl⟩
  simp only [ldN ga, k6, bnd, guard_tt, guard_ff, guard_tf, guard_ft, pick_t, pick_f, if_t, if_f, add_i, sub_i, lss_i, leq_i, gtr_i, geq_i, eql_i, neq_i, min_i, max_i, conv_i, len_sl, len_nil, not_b, cells_agg, new_s, fld_p, nil_p, (ex _ _ _).1, (ex _ _ _).2, List.length_cons, List.length_nil, Nat.zero_add, Nat.reduceAdd]
  have hmx : IntKind.u64.wrap (max most 0) = max most 0 := w_u64 (by omega) (by omega)
  -- the row of the next reader
  obtain ⟨d, hd⟩ : ∃ d, d = s6.next := ⟨_, rfl⟩
  have hn6 := e6.next
  have e7 : Ext s6 ((s6.push (.cells [.nilsl, .int .i64 0] false)).set d (.cells [lv, .int .i64 (rdNum b e 18446744073709551615).2.2] false)) := ⟨by simp only [next_set, next_push]; omega, fun l hl => by rw [get_set, if_neg (by omega), get_push, if_neg (by omega)]⟩
  have gd0 : (s6.push (.cells [.nilsl, .int .i64 0] false)).get d = .cells [.nilsl, .int .i64 0] false := by rw [get_push, if_pos hd]
  have gd : ((s6.push (.cells [.nilsl, .int .i64 0] false)).set d (.cells [lv, .int .i64 (rdNum b e 18446744073709551615).2.2] false)).get d = .cells [lv, .int .i64 (rdNum b e 18446744073709551615).2.2] false := by rw [get_set, if_pos rfl]
  have n7 : ((s6.push (.cells [.nilsl, .int .i64 0] false)).set d (.cells [lv, .int .i64 (rdNum b e 18446744073709551615).2.2] false)).next = d + 1 := by rw [hd]; rfl
  rw [← hd, stN _ _ gd0 rfl]
  generalize (s6.push (.cells [.nilsl, .int .i64 0] false)).set d (.cells [lv, .int .i64 (rdNum b e 18446744073709551615).2.2] false) = s7 at *
  have ga7 := (e7.get a (by omega)).trans ga6
  have gc7 := (e7.get (a + 1) (by omega)).trans gc6
  have e07 := (e0.trans e6).trans e7
  have v7 := (v6.ext e6).ext e7
  have hnn := numR_nn hu 18446744073709551615
  have hln := numR_len b 18446744073709551615
  -- an error
  have bad : ∀ (y : Int) (t : Store) (x6 : AV), y ≠ 0 → t.get a = .cells [bv, .int .i64 e] false → t.get (a + 1) = .cells [.nilsl, .int .i64 0] false → t.get d = .cells [lv, .int .i64 y] false → d < t.next → IsV t bv .u8 b → (∀ l, l < a → t.get l = s7.get l) → ∃ rv t', F52.p9 (k + 2) (.ptr a 0 2) (.ptr (a + 1) 0 2) x6 (.ptr d 0 2) t = some (.tuple [rv, .agg [bv, .int .i64 y]], t') ∧ IsV t' rv .u8 [] ∧ IsV t' bv .u8 b ∧ Ext s t' ∧ ∀ i x c z f, rv = .sl i x c z f → s.next ≤ i := by
    intro y t x6 h1 h2 h3 h4 h5 h6 h7
    obtain ⟨rv, t', r1, r2, r3, r4, r5, r6⟩ := rr_bad (k + 2) (x6 := x6) h1 h2 h3 h4 (by omega) h5 hvlt h6
    exact ⟨rv, t', r1, r2, r3, ⟨by omega, fun l hl => by rw [r5 l (by omega), h7 l (by omega)]; exact e07.get l hl⟩, fun i x c z f q => by have := r6 i x c z f q; omega⟩
  have hbv7 := hv.ext e07
  unfold F52.p11 F52.p10
  rw [fld_p, ld_f1 gd, eql_i]
  by_cases hx : (rdNum b e 18446744073709551615).2.2 = 0
  · have he : e = 0 := by
      by_cases q : e = 0
      · exact q
      · unfold rdNum at hx; rw [if_pos q] at hx; exact absurd hx q
    subst he
    have hx2 : (numR b 18446744073709551615).2.2 = 0 := by
      by_cases q : (numR b 18446744073709551615).2.2 = 0
      · exact q
      · unfold rdNum at hx; rw [if_neg (by simp), if_pos q] at hx; exact absurd hx q
    have hrd : rdNum b 0 18446744073709551615 = numR b 18446744073709551615 := by unfold rdNum; rw [if_neg (by simp), if_neg (by simp [hx2])]
    have hrow : rdRow b 0 most = if (numR b 18446744073709551615).1 > max most 0 then ([], b, 4) else if (numR b 18446744073709551615).1 > (numR b 18446744073709551615).2.1.length then ([], b, 2) else ((numR b 18446744073709551615).2.1.take (numR b 18446744073709551615).1.toNat, (numR b 18446744073709551615).2.1.drop (numR b 18446744073709551615).1.toNat, 0) := by
      unfold rdRow; rw [if_neg (by simp), if_neg (by simp [hx2])]
    rw [hrow]
    rw [hrd] at gd v7 v6 hx ⊢
    generalize numR b 18446744073709551615 = R at *
    obtain ⟨n, left, er⟩ := R
    simp only at *
    subst hx2
    simp only [beq_self_eq_true, bnd, guard_tt, guard_ff, guard_tf, guard_ft, pick_t, pick_f, if_t, if_f, add_i, sub_i, lss_i, leq_i, gtr_i, geq_i, eql_i, neq_i, min_i, max_i, conv_i, len_sl, len_nil, not_b, cells_agg, new_s, fld_p, nil_p, hmx]
    have sets : ∀ y : Int, (s7.set d (.cells [lv, .int .i64 y] false)).get a = .cells [bv, .int .i64 0] false ∧ (s7.set d (.cells [lv, .int .i64 y] false)).get (a + 1) = .cells [.nilsl, .int .i64 0] false ∧ (s7.set d (.cells [lv, .int .i64 y] false)).get d = .cells [lv, .int .i64 y] false ∧ (∀ l, l < a → (s7.set d (.cells [lv, .int .i64 y] false)).get l = s7.get l) ∧ IsV (s7.set d (.cells [lv, .int .i64 y] false)) bv .u8 b := by
      intro y
      refine ⟨by rw [get_set, if_neg (by omega)]; exact ga7, by rw [get_set, if_neg (by omega)]; exact gc7, by rw [get_set, if_pos rfl], fun l hl => by rw [get_set, if_neg (by omega)], hbv7.fr1 (Fr1.set d s7 _) fun i x c z f q => by have := hvlt i x c z f q; omega⟩
    by_cases h1 : n > max most 0
    · rw [decide_eq_true h1, if_t, if_pos h1, st_f1 gd]
      obtain ⟨q1, q2, q3, q4, q5⟩ := sets 4
      simp only [ld_f1 q3, bnd, guard_tt, guard_ff, guard_tf, guard_ft, pick_t, pick_f, if_t, if_f, add_i, sub_i, lss_i, leq_i, gtr_i, geq_i, eql_i, neq_i, min_i, max_i, conv_i, len_sl, len_nil, not_b, cells_agg, new_s, fld_p, nil_p, show ((4 : Int) == 0) = false from rfl]
      obtain ⟨rv, t', r1, r2, r3, r4, r5⟩ := bad 4 _ (.int .u64 n) (by omega) q1 q2 q3 (by rw [next_set]; omega) q5 q4
      exact ⟨rv, bv, t', r1, r2, r3, fun i x c z f q => ⟨_, _, _, _, q⟩, r4, fun i x c z f q => .inr (by have := r5 i x c z f q; omega)⟩
    · rw [decide_eq_false h1, if_f, if_neg h1, ld_f1 gd]
      simp only [beq_self_eq_true, bnd, guard_tt, guard_ff, guard_tf, guard_ft, pick_t, pick_f, if_t, if_f, add_i, sub_i, lss_i, leq_i, gtr_i, geq_i, eql_i, neq_i, min_i, max_i, conv_i, len_sl, len_nil, not_b, cells_agg, new_s, fld_p, nil_p, ld_f0 gd, lenV v7, w_u64 (show (0 : Int) ≤ left.length by omega) (show (left.length : Int) < 18446744073709551616 by omega)]
      by_cases h2 : n > (left.length : Int)
      · rw [decide_eq_true h2, if_t, if_pos h2, st_f1 gd]
        obtain ⟨q1, q2, q3, q4, q5⟩ := sets 2
        obtain ⟨rv, t', r1, r2, r3, r4, r5⟩ := bad 2 _ (.int .u64 n) (by omega) q1 q2 q3 (by rw [next_set]; omega) q5 q4
        exact ⟨rv, bv, t', r1, r2, r3, fun i x c z f q => ⟨_, _, _, _, q⟩, r4, fun i x c z f q => .inr (by have := r5 i x c z f q; omega)⟩
      · rw [decide_eq_false h2, if_f, if_neg h2]
        unfold F52.p9 F52.p8 F52.p7 F52.p3 F52.p2 F52.p1 F52.p0
        obtain ⟨nn, hnn2⟩ : ∃ nn : Nat, n = nn := ⟨n.toNat, by omega⟩
        subst hnn2
        obtain ⟨dv, d1, _, d3, _, d2⟩ := sliceV v7 (a := nn) (b := left.length) (by omega) (Nat.le_refl _)
        have d2' : ∀ {α : Type} (f : AV → Option α), aSliceSl 1 lv (some (.int .u64 (nn : Int))) none f = f dv := fun f => d2 rfl .u64 f
        have d1' : IsV s7 dv .u8 (left.drop nn) := by
          have e : ((left.drop nn).take (left.length - nn)) = left.drop nn := List.take_of_length_le (by simp)
          rw [e] at d1; exact d1
        obtain ⟨tv, t1, _, t3, t2, _⟩ := sliceV v7 (a := 0) (b := nn) (Nat.zero_le _) (by omega)
        have t2' : ∀ {α : Type} (f : AV → Option α), aSliceSl 1 lv none (some (.int .u64 (nn : Int))) f = f tv := fun f => t2 rfl .u64 f
        have t1' : IsV s7 tv .u8 (left.take nn) := by simpa using t1
        have g8 : (s7.set d (.cells [dv, .int .i64 0] false)).get d = .cells [dv, .int .i64 0] false := by rw [get_set, if_pos rfl]
        have gc8 : (s7.set d (.cells [dv, .int .i64 0] false)).get (a + 1) = .cells [.nilsl, .int .i64 0] false := by rw [get_set, if_neg (by omega)]; exact gc7
        have g9 : ((s7.set d (.cells [dv, .int .i64 0] false)).set (a + 1) (.cells [dv, .int .i64 0] false)).get (a + 1) = .cells [dv, .int .i64 0] false := by rw [get_set, if_pos rfl]
        have hne : ((0 : Int) != 0) = false := rfl
        simp only [bnd, guard_tt, guard_ff, guard_tf, guard_ft, pick_t, pick_f, if_t, if_f, add_i, sub_i, lss_i, leq_i, gtr_i, geq_i, eql_i, neq_i, min_i, max_i, conv_i, len_sl, len_nil, not_b, cells_agg, new_s, fld_p, nil_p, ld_f1 gd, hne, ld_f0 gd, t2', d2', st_f0 gd d1', ldN g8, stN _ _ gc8 rfl, ldN g9, Int.toNat_natCast]
        have lva : ∀ i x c z f, lv = .sl i x c z f → i < a := fun i x c z f q => by obtain ⟨_, _, _, _, q'⟩ := l6 i x c z f q; exact hvlt _ _ _ _ _ q'
        have keep : ∀ {v : AV} {xs : List Int}, IsV s7 v .u8 xs → (∀ i x c z f, v = .sl i x c z f → i < a) → IsV ((s7.set d (.cells [dv, .int .i64 0] false)).set (a + 1) (.cells [dv, .int .i64 0] false)) v .u8 xs := fun h hl =>
          (h.fr1 (Fr1.set d s7 _) fun i x c z f q => by have := hl i x c z f q; omega).fr1 (Fr1.set (a + 1) _ _) fun i x c z f q => by have := hl i x c z f q; omega
        refine ⟨tv, dv, _, rfl, keep t1' fun i x c z f q => ?_, keep d1' fun i x c z f q => ?_, fun i x c z f q => ?_, ⟨by simp only [next_set]; exact e07.next, fun l hl => by rw [get_set, if_neg (by omega), get_set, if_neg (by omega)]; exact e07.get l hl⟩, fun i x c z f q => .inl ?_⟩
        · obtain ⟨_, _, _, _, q'⟩ := t3 i x c z f q; exact lva _ _ _ _ _ q'
        · obtain ⟨_, _, _, _, q'⟩ := d3 i x c z f q; exact lva _ _ _ _ _ q'
        · obtain ⟨_, _, _, _, q'⟩ := d3 i x c z f q; exact l6 _ _ _ _ _ q'
        · obtain ⟨_, _, _, _, q'⟩ := t3 i x c z f q; exact l6 _ _ _ _ _ q'
  · have hx' : ((rdNum b e 18446744073709551615).2.2 == 0) = false := by simpa using hx
    have hb0 : (rdNum b e 18446744073709551615).2.1 = b ∧ rdRow b e most = ([], b, (rdNum b e 18446744073709551615).2.2) := by
      unfold rdRow
      unfold rdNum at hx ⊢
      by_cases he : e ≠ 0
      · rw [if_pos he, if_pos he]; exact ⟨rfl, rfl⟩
      · rw [if_neg he, if_neg he] at *
        by_cases h2 : (numR b 18446744073709551615).2.2 ≠ 0
        · rw [if_pos h2, if_pos h2]; exact ⟨rfl, rfl⟩
        · rw [if_neg h2] at hx; exact absurd hx h2
    simp only [hx', bnd, guard_tt, guard_ff, guard_tf, guard_ft, pick_t, pick_f, if_t, if_f, add_i, sub_i, lss_i, leq_i, gtr_i, geq_i, eql_i, neq_i, min_i, max_i, conv_i, len_sl, len_nil, not_b, cells_agg, new_s, fld_p, nil_p, ld_f1 gd]
    rw [hb0.2]
    obtain ⟨rv, t', r1, r2, r3, r4, r5⟩ := bad _ s7 (.int .u64 (rdNum b e 18446744073709551615).1) hx ga7 gc7 gd (by omega) hbv7 (fun _ _ => rfl)
    exact ⟨rv, bv, t', r1, r2, r3, fun i x c z f q => ⟨_, _, _, _, q⟩, r4, fun i x c z f q => .inr (by have := r5 i x c z f q; omega)⟩
end Go.Proofs.Ytkfdgegmahbkiaa.Sim
namespace Go.Proofs.Ytkfdgegmahbkiaa.Sim
set_option linter.unusedSimpArgs false
set_option linter.unusedVariables false

theorem IsV.back {s0 s : Store} {v : AV} {k : IntKind} {xs : List Int} (h : IsV s v k xs) (e : Ext s0 s) (hlt : ∀ i b c d f, v = .sl i b c d f → i < s0.next) : IsV s0 v k xs := by
  rcases h with h | ⟨l, off, ys, ro, h1, h2, h3, h4⟩
  · exact .inl h
  · have := hlt _ _ _ _ _ h1
    exact .inr ⟨l, off, ys, ro, h1, this, by rw [← e.get l this]; exact h3, h4⟩

section
variable {s0 : Store} {x1 : AV} {id m : Nat}

theorem rdNum_u8 {b : List Int} {e most : Int} (hu : ∀ x ∈ b, 0 ≤ x ∧ x < 256) : ∀ x ∈ (rdNum b e most).2.1, 0 ≤ x ∧ x < 256 := by
  unfold rdNum
  split
  · exact hu
  · split
    · exact hu
    · intro x hx
      unfold numR at hx
      split at hx
      · simp at hx
      · rename_i k r
        split at hx
        · simp at hx
        · split at hx
          · simp at hx
          · split at hx
            · simp at hx
            · split at hx
              · simp at hx
              · exact hu x (List.mem_cons_of_mem _ (List.mem_of_mem_drop hx))
theorem rdNum_len {b : List Int} {e most : Int} : (rdNum b e most).2.1.length ≤ b.length := by
  unfold rdNum
  split
  · exact Nat.le_refl _
  · split
    · exact Nat.le_refl _
    · exact numR_len b most
theorem numR_left_u8 {b : List Int} {most : Int} (hu : ∀ x ∈ b, 0 ≤ x ∧ x < 256) : ∀ x ∈ (numR b most).2.1, 0 ≤ x ∧ x < 256 := by
  intro x hx
  unfold numR at hx
  split at hx
  · simp at hx
  · rename_i k r
    split at hx
    · simp at hx
    · split at hx
      · simp at hx
      · split at hx
        · simp at hx
        · split at hx
          · simp at hx
          · exact hu x (List.mem_cons_of_mem _ (List.mem_of_mem_drop hx))
theorem rdRow_u8 {b : List Int} {e most : Int} (hu : ∀ x ∈ b, 0 ≤ x ∧ x < 256) : ∀ x ∈ (rdRow b e most).2.1, 0 ≤ x ∧ x < 256 := by
  unfold rdRow
  split
  · exact hu
  · split
    · exact hu
    · split
      · exact hu
      · split
        · exact hu
        · exact fun x hx => numR_left_u8 hu x (List.mem_of_mem_drop hx)
theorem rdRow_len {b : List Int} {e most : Int} : (rdRow b e most).2.1.length ≤ b.length := by
  unfold rdRow
  have := numR_len b 18446744073709551615
  split
  · exact Nat.le_refl _
  · split
    · exact Nat.le_refl _
    · split
      · exact Nat.le_refl _
      · split
        · exact Nat.le_refl _
        · simp; omega

end

end Go.Proofs.Ytkfdgegmahbkiaa.Sim
