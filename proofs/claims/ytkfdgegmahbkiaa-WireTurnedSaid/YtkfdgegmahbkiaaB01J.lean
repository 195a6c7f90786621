/- The texts BRow, B01A, B01B, B01C, B01D, B01E, B01F, B01G, B01H, B01I, B01J, one behind the other. No condition. -/
import Derived.Test.YtkfdgegmahbkiaaFunB
import Derived.Test.YtkfdgegmahbkiaaSimW
import Derived.Test.YtkfdgegmahbkiaaSimQ
namespace Go.Proofs.Ytkfdgegmahbkiaa.Sim
set_option linter.unusedSimpArgs false
set_option linter.unusedVariables false
variable {s : Store}
theorem rputAll_full : ∀ (vs cs pre : List AV), vs.length = cs.length → putAll (pre ++ cs) pre.length vs = pre ++ vs
  | [], cs, pre, h => by
    have : cs = [] := List.length_eq_zero_iff.1 h.symm
    rw [this]; rfl
  | v :: vs, [], pre, h => by simp at h
  | v :: vs, c :: cs, pre, h => by
    have := rputAll_full vs cs (pre ++ [v]) (by simpa using h)
    simp only [putAll]
    rw [List.set_append_right _ _ (Nat.le_refl _), Nat.sub_self, List.set_cons_zero]
    simpa using this
theorem rst_all {id n : Nat} {cs vs : List AV} (h : s.get id = .cells cs false) (hc : cs.length = n) (hv : vs.length = n) {α : Type} (f : Store → Option α) : aStore n (.ptr id 0 n) (.agg vs) s f = f (s.set id (.cells vs false)) := by
  have := rputAll_full vs cs [] (by omega)
  simp only [List.nil_append, List.length_nil] at this
  simp only [aStore, aCells, aOwn, h, hc, if_true]
  rw [if_pos (by omega), this]
theorem rld_all {id n : Nat} {cs : List AV} {ro : Bool} (h : s.get id = .cells cs ro) (hc : cs.length = n) {α : Type} (f : AV → Option α) : aLoadN n (.ptr id 0 n) s f = f (.agg cs) := by
  rw [load_n (off := 0) (ep := n) (n := n) h hc (by omega), List.drop_zero, List.take_of_length_le (by omega)]
/-- A new row that is filled at once. -/
theorem new_all {n : Nat} {zs vs : List AV} (hz : zs.length = n) (hv : vs.length = n) {α : Type} (f : AV → Store → Option α) : (aNew zs s fun p t => aStore n p (.agg vs) t fun u => f p u) = f (.ptr s.next 0 n) (s.push (.cells vs false)) := by
  simp only [aNew, hz]
  rw [rst_all (s := s.push (.cells zs false)) (cs := zs) (by rw [get_push, if_pos rfl]) hz hv]
  congr 1
  unfold Store.set Store.push
  simp only
  congr 1
  funext j
  split <;> rfl
end Go.Proofs.Ytkfdgegmahbkiaa.Sim
namespace Go.Proofs.Ytkfdgegmahbkiaa.Sim
set_option linter.unusedSimpArgs false
set_option linter.unusedVariables false

/-- The last bytes first, of a number below 256^f. -/
def leI : Nat → Int → List Int
  | 0, _ => []
  | f + 1, n => if n = 0 then [] else (n % 256) :: leI f (n / 256)
def numB (n : Int) : List Int := ((leI 8 n).length : Int) :: leI 8 n
theorem leI_len : ∀ (f : Nat) (n : Int), (leI f n).length ≤ f
  | 0, _ => Nat.le_refl _
  | f + 1, n => by
    unfold leI
    split
    · simp
    · have := leI_len f (n / 256); simp; omega
theorem leI_u8 : ∀ (f : Nat) (n : Int), ∀ x ∈ leI f n, 0 ≤ x ∧ x < 256
  | 0, _, x, h => by simp [leI] at h
  | f + 1, n, x, h => by
    unfold leI at h
    split at h
    · simp at h
    · rcases List.mem_cons.1 h with rfl | h
      · omega
      · exact leI_u8 f _ x h
theorem numB_u8 (n : Int) : ∀ x ∈ numB n, 0 ≤ x ∧ x < 256 := fun x h => by
  rcases List.mem_cons.1 h with rfl | h
  · have := leI_len 8 n; omega
  · exact leI_u8 8 n x h
theorem numB_len (n : Int) : (numB n).length ≤ 9 := by have := leI_len 8 n; simp [numB]; omega
theorem leI_succ (f : Nat) (n : Int) : leI (f + 1) n = if n = 0 then [] else (n % 256) :: leI f (n / 256) := rfl
theorem leI_stay : ∀ (f : Nat) (n : Int), 0 ≤ n → n < 256 ^ f → leI (f + 1) n = leI f n
  | 0, n, h0, h1 => by
    have : n = 0 := by simp at h1; omega
    subst this; rfl
  | f + 1, n, h0, h1 => by
    rw [leI_succ (f + 1) n, leI_succ f n]
    split
    · rfl
    · rw [leI_stay f (n / 256) (by omega) (by rw [Int.pow_succ] at h1; omega)]
theorem leI_8 {n : Int} (h0 : 0 < n) (h1 : n < 18446744073709551616) : leI 8 n = (n % 256) :: leI 8 (n / 256) := by
  have e : (256 : Int) ^ 7 = 72057594037927936 := rfl
  rw [leI_succ 7, if_neg (by omega), leI_stay 7 (n / 256) (by omega) (by rw [e]; omega)]
/-- How many bytes a number has. -/
def wid (n : Int) : Nat := (leI 8 n).length
theorem wid_step {n : Int} (h0 : 0 < n) (h1 : n < 18446744073709551616) : wid n = wid (n / 256) + 1 := by
  unfold wid
  rw [leI_8 h0 h1, List.length_cons]
theorem wid_0 : wid 0 = 0 := rfl
theorem wid_1 {n : Int} (h0 : 0 < n) (h1 : n < 256) : wid n = 1 := by
  rw [wid_step h0 (by omega), show n / 256 = 0 by omega, wid_0]
theorem wid_2 {n : Int} (h0 : 256 ≤ n) (h1 : n < 18446744073709551616) : wid n = wid (n / 256) + 1 := wid_step (by omega) h1
theorem wid_4 {n : Int} (h0 : 65536 ≤ n) (h1 : n < 18446744073709551616) : wid n = wid (n / 65536) + 2 := by
  rw [wid_2 (by omega) h1, wid_2 (n := n / 256) (by omega) (by omega), show n / 256 / 256 = n / 65536 by omega]
theorem wid_8 {n : Int} (h0 : 4294967296 ≤ n) (h1 : n < 18446744073709551616) : wid n = wid (n / 4294967296) + 4 := by
  rw [wid_4 (by omega) h1, wid_4 (n := n / 65536) (by omega) (by omega), show n / 65536 / 65536 = n / 4294967296 by omega]

theorem shr_u (b d : Int) (hd : (2 : Int) ^ b.toNat = d) (hb : 0 ≤ b) (hb2 : b < 64) {a : Int} (ha : 0 ≤ a) {kk : IntKind} {α : Type} (f : AV → Option α) : aShift .shr (.int .u64 a) (.int kk b) f = f (.int .u64 (a / d)) := by
  have h : min b.toNat IntKind.u64.bits = b.toNat := by simp [IntKind.bits]; omega
  simp only [aShift, if_neg (show ¬ b < 0 by omega), h]
  rw [hd, Int.fdiv_eq_ediv_of_nonneg _ (by rw [← hd]; exact Int.pow_nonneg (by omega))]
theorem quo_i {k : IntKind} {a b : Int} (ha : 0 ≤ a) (hb : b ≠ 0) {α : Type} (f : AV → Option α) : aBin .quo (.int k a) (.int k b) f = f (.int k (k.wrap (a / b))) := by
  simp only [aBin, intBin, if_true, if_neg hb, Int.tdiv_eq_ediv_of_nonneg ha]
theorem rem_i {k : IntKind} {a b : Int} (ha : 0 ≤ a) (hb : b ≠ 0) {α : Type} (f : AV → Option α) : aBin .rem (.int k a) (.int k b) f = f (.int k (a % b)) := by
  simp only [aBin, intBin, if_true, if_neg hb, Int.tmod_eq_emod_of_nonneg ha]
theorem byte_of {a : Int} : IntKind.u8.wrap a = a % 256 := by simp [IntKind.wrap, IntKind.bits, IntKind.signed]

def tab8 : ByteArray := ⟨#[0, 1, 2, 2, 3, 3, 3, 3, 4, 4, 4, 4, 4, 4, 4, 4, 5, 5, 5, 5, 5, 5, 5, 5, 5, 5, 5, 5, 5, 5, 5, 5, 6, 6, 6, 6, 6, 6, 6, 6, 6, 6, 6, 6, 6, 6, 6, 6, 6, 6, 6, 6, 6, 6, 6, 6, 6, 6, 6, 6, 6, 6, 6, 6, 7, 7, 7, 7, 7, 7, 7, 7, 7, 7, 7, 7, 7, 7, 7, 7, 7, 7, 7, 7, 7, 7, 7, 7, 7, 7, 7, 7, 7, 7, 7, 7, 7, 7, 7, 7, 7, 7, 7, 7, 7, 7, 7, 7, 7, 7, 7, 7, 7, 7, 7, 7, 7, 7, 7, 7, 7, 7, 7, 7, 7, 7, 7, 7, 8, 8, 8, 8, 8, 8, 8, 8, 8, 8, 8, 8, 8, 8, 8, 8, 8, 8, 8, 8, 8, 8, 8, 8, 8, 8, 8, 8, 8, 8, 8, 8, 8, 8, 8, 8, 8, 8, 8, 8, 8, 8, 8, 8, 8, 8, 8, 8, 8, 8, 8, 8, 8, 8, 8, 8, 8, 8, 8, 8, 8, 8, 8, 8, 8, 8, 8, 8, 8, 8, 8, 8, 8, 8, 8, 8, 8, 8, 8, 8, 8, 8, 8, 8, 8, 8, 8, 8, 8, 8, 8, 8, 8, 8, 8, 8, 8, 8, 8, 8, 8, 8, 8, 8, 8, 8, 8, 8, 8, 8, 8, 8, 8, 8, 8, 8, 8, 8, 8, 8, 8, 8, 8, 8, 8, 8, 8, 8]⟩
theorem tab8_size : tab8.size = 256 := by decide +kernel
theorem tab8_at : ∀ i : Fin 256, ((tab8[i.val]'(by rw [tab8_size]; exact i.isLt)).toNat + 7) / 8 = (if i.val = 0 then 0 else 1) ∧ (tab8[i.val]'(by rw [tab8_size]; exact i.isLt)).toNat ≤ 8 := by decide +kernel

theorem len_p0 (k : Nat) (x0 x2 : AV) (s : Store) : F70.p0 k x0 x2 s = aConvInt .u8 x0 fun v1 => aIndexStr (AV.str tab8) v1 fun v2 => aConvInt .i64 v2 fun v3 => aBin .add x2 v3 fun v4 => some (v4, s) := by kernel_rfl
theorem len64_0 {y c : Int} (h0 : 0 ≤ y) (h1 : y < 256) (hc : 0 ≤ c) (hc2 : c ≤ 56) (k : Nat) (s : Store) : ∃ t : Int, F70.p0 k (.int .u64 y) (.int .i64 c) s = some (.int .i64 (c + t), s) ∧ 0 ≤ t ∧ t ≤ 8 ∧ (t + 7) / 8 = wid y := by
  have hlt : y.toNat < 256 := by omega
  obtain ⟨t1, t2⟩ := tab8_at ⟨y.toNat, hlt⟩
  have hw : (wid y : Int) = (if y.toNat = 0 then 0 else 1 : Nat) := by
    by_cases hz : y = 0
    · subst hz; rfl
    · rw [wid_1 (by omega) h1, if_neg (by omega)]
  simp only at t1 t2
  refine ⟨((tab8[y.toNat]'(by rw [tab8_size]; exact hlt)).toNat : Int), ?_, by omega, by omega, by rw [hw]; omega⟩
  rw [len_p0, conv_i, byte_of, show y % 256 = y by omega]
  simp only [aIndexStr]
  rw [if_pos h0, dif_pos (by rw [tab8_size]; exact hlt)]
  have hw8 : IntKind.i64.wrap ((tab8[y.toNat]'(by rw [tab8_size]; exact hlt)).toNat : Int) = ((tab8[y.toNat]'(by rw [tab8_size]; exact hlt)).toNat : Int) := w_i64 (by omega) (by omega)
  simp only [conv_i, add_i, hw8]
  rw [w_i64 (by omega) (by omega)]

theorem len64 {n : Int} (h0 : 0 ≤ n) (h1 : n < 18446744073709551616) (k : Nat) (s : Store) : ∃ t : Int, rn (k + 1) 70 [.int .u64 n] s = some (.int .i64 t, s) ∧ 0 ≤ t ∧ t ≤ 64 ∧ (t + 7) / 8 = wid n := by
  rw [F70.eq]
  unfold F70.f F70.p4
  have s1 : ∀ {y c : Int}, 0 ≤ y → y < 65536 → 0 ≤ c → c ≤ 48 → ∃ t : Int, F70.p1 k (.int .u64 y) (.int .i64 c) s = some (.int .i64 (c + t), s) ∧ 0 ≤ t ∧ t ≤ 16 ∧ (t + 7) / 8 = wid y := by
    intro y c a1 a2 a3 a4
    unfold F70.p1
    rw [geq_i]
    by_cases hc : y ≥ 256
    · rw [decide_eq_true hc, if_t, shr_u 8 256 rfl (by omega) (by omega) a1, add_i, w_i64 (by omega) (by omega)]
      obtain ⟨t, b1, b2, b3, b4⟩ := len64_0 (y := y / 256) (c := c + 8) (by omega) (by omega) (by omega) (by omega) k s
      refine ⟨8 + t, by rw [b1]; congr 3; omega, by omega, by omega, ?_⟩
      rw [wid_2 (n := y) (by omega) (by omega)]
      push_cast; omega
    · rw [decide_eq_false hc, if_f]
      obtain ⟨t, b1, b2, b3, b4⟩ := len64_0 (y := y) (c := c) a1 (by omega) a3 (by omega) k s
      exact ⟨t, b1, b2, by omega, b4⟩
  have s2 : ∀ {y c : Int}, 0 ≤ y → y < 4294967296 → 0 ≤ c → c ≤ 32 → ∃ t : Int, F70.p2 k (.int .u64 y) (.int .i64 c) s = some (.int .i64 (c + t), s) ∧ 0 ≤ t ∧ t ≤ 32 ∧ (t + 7) / 8 = wid y := by
    intro y c a1 a2 a3 a4
    unfold F70.p2
    rw [geq_i]
    by_cases hc : y ≥ 65536
    · rw [decide_eq_true hc, if_t, shr_u 16 65536 rfl (by omega) (by omega) a1, add_i, w_i64 (by omega) (by omega)]
      obtain ⟨t, b1, b2, b3, b4⟩ := s1 (y := y / 65536) (c := c + 16) (by omega) (by omega) (by omega) (by omega)
      refine ⟨16 + t, by rw [b1]; congr 3; omega, by omega, by omega, ?_⟩
      rw [wid_4 (n := y) (by omega) (by omega)]
      push_cast; omega
    · rw [decide_eq_false hc, if_f]
      obtain ⟨t, b1, b2, b3, b4⟩ := s1 (y := y) (c := c) a1 (by omega) a3 (by omega)
      exact ⟨t, b1, b2, by omega, b4⟩
  unfold F70.p3
  rw [geq_i]
  by_cases hc : n ≥ 4294967296
  · rw [decide_eq_true hc, if_t, shr_u 32 4294967296 rfl (by omega) (by omega) h0]
    obtain ⟨t, b1, b2, b3, b4⟩ := s2 (y := n / 4294967296) (c := 32) (by omega) (by omega) (by omega) (by omega)
    refine ⟨32 + t, b1, by omega, by omega, ?_⟩
    rw [wid_8 (n := n) (by omega) h1]
    push_cast; omega
  · rw [decide_eq_false hc, if_f]
    obtain ⟨t, b1, b2, b3, b4⟩ := s2 (y := n) (c := 0) h0 (by omega) (by omega) (by omega)
    exact ⟨t, by rw [b1, Int.zero_add], b2, by omega, b4⟩

theorem width_run {n : Int} (h0 : 0 ≤ n) (h1 : n < 18446744073709551616) (k : Nat) (s : Store) : rn (k + 2) 64 [.int .u64 n] s = some (.int .i64 (wid n), s) := by
  rw [F64.eq]
  unfold F64.f F64.p0
  obtain ⟨t, b1, b2, b3, b4⟩ := len64 h0 h1 k s
  rw [b1, bnd, add_i, w_i64 (by omega) (by omega), quo_i (by omega) (by omega), w_i64 (by omega) (by omega), b4]

theorem put_loop (k : Nat) {lo : Nat} {kk : Int} (hkk : kk ≤ 8) : ∀ (n i : Nat) (s : Store) (v : AV) (xs : List Int) (m : Int), OwnV s v .u8 xs lo → lo ≤ s.next → 0 ≤ m → m < 18446744073709551616 → xs.length + n ≤ 1000000 → (i : Int) + wid m = kk → wid m < n →
    ∃ v' s', F55.l0 k n v (.int .u64 m) (.int .i64 kk) (.int .i64 i) s = some (v', s') ∧ OwnV s' v' .u8 (xs ++ leI 8 m) lo ∧ ExtLo lo s s'
  | 0, i, s, v, xs, m, _, _, _, _, _, _, hn => by omega
  | n + 1, i, s, v, xs, m, ho, hlo, h0, h1, hb, hi, hn => by
    have hs : F55.l0 k (n + 1) = fun x0 x1 x13 x14 s => F55.p4 k (F55.l0 k n) x0 x1 x13 x14 s := rfl
    rw [hs]
    clear hs
    simp only
    unfold F55.p4 F55.p3
    rw [lss_i]
    by_cases hm : m = 0
    · subst hm
      rw [wid_0] at hi
      rw [decide_eq_false (by omega), if_f]
      exact ⟨v, s, rfl, by simpa [leI] using ho, ExtLo.refl _ _⟩
    · have hw := wid_step (n := m) (by omega) h1
      rw [decide_eq_true (by omega), if_t]
      unfold F55.p2 F55.p1
      rw [conv_i, byte_of, build_1]
      obtain ⟨v1, s1, k1, k2, k3, _⟩ := app1V (bytes := 1) ho hlo (m % 256) (by omega) (by omega)
      rw [k1, shr_u 8 256 rfl (by omega) (by omega) h0, add_i, w_i64 (by omega) (by omega)]
      have e8 := leI_8 (n := m) (by omega) h1
      obtain ⟨v', s', j1, j2, j3⟩ := put_loop k hkk n (i + 1) s1 v1 (xs ++ [m % 256]) (m / 256) k2 (Nat.le_trans hlo k3.next) (by omega) (by omega) (by simp; omega) (by push_cast; omega) (by omega)
      refine ⟨v', s', j1, ?_, k3.trans j3⟩
      rw [e8, List.append_cons]; exact j2

theorem put_run {lo : Nat} {s : Store} {v : AV} {xs : List Int} {n : Int} (ho : OwnV s v .u8 xs lo) (hlo : lo ≤ s.next) (h0 : 0 ≤ n) (h1 : n < 18446744073709551616) (hb : xs.length ≤ 100000) (k : Nat) (hk : 100 ≤ k) (hk2 : k ≤ 100000) :
    ∃ v' s', rn (k + 3) 55 [v, .int .u64 n] s = some (v', s') ∧ OwnV s' v' .u8 (xs ++ numB n) lo ∧ ExtLo lo s s' := by
  rw [F55.eq]
  unfold F55.f F55.p8 F55.p7
  rw [width_run h0 h1, bnd]
  unfold F55.p6
  have hw := leI_len 8 n
  have hwe : wid n = (leI 8 n).length := rfl
  simp only
  rw [conv_i, byte_of, build_1]
  obtain ⟨v1, s1, k1, k2, k3, _⟩ := app1V (bytes := 1) ho hlo ((wid n : Int) % 256) (by omega) (by omega)
  rw [k1]
  unfold F55.p5
  obtain ⟨v', s', j1, j2, j3⟩ := put_loop (k + 2) (kk := wid n) (by omega) (k + 2) 0 s1 v1 (xs ++ [(wid n : Int) % 256]) n k2 (Nat.le_trans hlo k3.next) h0 h1 (by simp; omega) (by omega) (by omega)
  rw [Int.natCast_zero] at j1
  refine ⟨v', s', j1, ?_, k3.trans j3⟩
  have e : xs ++ numB n = xs ++ [(wid n : Int) % 256] ++ leI 8 n := by
    unfold numB
    rw [show (wid n : Int) % 256 = ((leI 8 n).length : Int) by omega]
    simp
  rw [e]; exact j2

theorem clone_u8 {s : Store} {v : AV} {xs : List Int} (h : IsV s v .u8 xs) (hb : xs.length ≤ 1000000) (k : Nat) : ∃ v' s', rn (k + 1) 45 [v] s = some (v', s') ∧ OwnV s' v' .u8 xs s.next ∧ Ext s s' := by
  rw [F45.eq]
  unfold F45.f F45.p0
  obtain ⟨s1, k1, k2, k3, k4⟩ := copyV (bytes := 1) h (by omega) (by omega)
  rcases h with ⟨rfl, rfl⟩ | ⟨l, off, ys, ro, rfl, h2, h3⟩
  · exact ⟨.nilsl, s, rfl, .inl ⟨rfl, rfl⟩, Ext.refl _⟩
  · simp only [aEq, bnd, guard_tt, guard_ff, guard_tf, guard_ft, pick_t, pick_f, if_t, if_f, add_i, sub_i, lss_i, leq_i, gtr_i, geq_i, eql_i, neq_i, min_i, max_i, conv_i, len_sl, len_nil, not_b, cells_agg, new_s, fld_p, nil_p]
    rw [build_0, k1]
    exact ⟨_, s1, rfl, .inr ⟨s.next, rfl, Nat.le_refl _, k3, k2⟩, k4⟩

/-- Numbers, one behind the other. -/
def numsB (l : List Int) : List Int := (l.map numB).flatten
theorem numsB_cons (n : Int) (l : List Int) : numsB (n :: l) = numB n ++ numsB l := rfl
theorem numsB_len : ∀ l : List Int, (numsB l).length ≤ l.length * 9
  | [] => by simp [numsB]
  | n :: l => by
    have := numsB_len l
    have := numB_len n
    simp only [numsB, List.map_cons, List.flatten_cons, List.length_append, List.length_cons] at *
    omega

theorem puts_loop (k : Nat) (hk : 200 ≤ k) (hk2 : k ≤ 100000) {lo : Nat} {lv : AV} {l : List Int} (hl : l.length ≤ 10000) (hu : ∀ x ∈ l, 0 ≤ x ∧ x < 18446744073709551616) (hlo' : ∀ a b c d f, lv = .sl a b c d f → a < lo) : ∀ (n i : Nat) (s : Store) (v : AV) (xs : List Int), IsV s lv .u64 l → OwnV s v .u8 xs lo → lo ≤ s.next → xs.length + (l.length - i) * 9 ≤ 90000 → i ≤ l.length → l.length - i < n →
    ∃ v' s', F31.l0 (k + 3) n v lv (.int .i64 l.length) (.int .i64 i) s = some (v', s') ∧ OwnV s' v' .u8 (xs ++ numsB (l.drop i)) lo ∧ ExtLo lo s s'
  | 0, i, _, _, _, _, _, _, _, hi, hn => by omega
  | n + 1, i, s, v, xs, hv, ho, hlo, hb, hi, hn => by
    have hs : F31.l0 (k + 3) (n + 1) = fun x5 x10 x11 x12 s => F31.p4 (k + 3) (F31.l0 (k + 3) n) x5 x10 x11 x12 s := rfl
    rw [hs]
    clear hs
    simp only
    unfold F31.p4 F31.p3
    rw [lss_i]
    by_cases h : i < l.length
    · have hz : (i : Int) < (l.length : Int) := by omega
      rw [decide_eq_true hz, if_t]
      unfold F31.p2 F31.p1
      have hw1 : IntKind.i64.wrap ((i : Int) + 1) = ((i + 1 : Nat) : Int) := by rw [w_i64 (by omega) (by omega)]; omega
      obtain ⟨p, p1, p2⟩ := atV hv (show (0 : Int) ≤ i by omega) hz
      have hux := hu _ (List.getElem_mem h)
      have eg : l.getD (i : Int).toNat 0 = l[i] := by simp [h]
      rw [p1, p2, eg]
      obtain ⟨v1, s1, k1, k2, k3⟩ := put_run ho hlo hux.1 hux.2 (by omega) k (by omega) hk2
      have hnl := numB_len l[i]
      rw [k1, bnd, add_i, hw1]
      obtain ⟨v', s', j1, j2, j3⟩ := puts_loop k hk hk2 hl hu hlo' n (i + 1) s1 v1 (xs ++ numB l[i]) (k3.isV hv hlo') k2 (Nat.le_trans hlo k3.next) (by rw [List.length_append]; omega) (by omega) (by omega)
      refine ⟨v', s', j1, ?_, k3.trans j3⟩
      rw [List.drop_eq_getElem_cons h]
      rw [numsB_cons, ← List.append_assoc]; exact j2
    · have hz : ¬ (i : Int) < (l.length : Int) := by omega
      rw [decide_eq_false hz, if_f, List.drop_eq_nil_of_le (by omega)]
      exact ⟨v, s, rfl, by simpa [numsB] using ho, ExtLo.refl _ _⟩

theorem puts_run {s : Store} {bv lv : AV} {b l : List Int} (hb : IsV s bv .u8 b) (hv : IsV s lv .u64 l) (hbl : b.length ≤ 80000) (hl : l.length ≤ 1000) (hu : ∀ x ∈ l, 0 ≤ x ∧ x < 18446744073709551616) (k : Nat) (hk : 1100 ≤ k) (hk2 : k ≤ 100000) :
    ∃ v' s', rn (k + 4) 31 [bv, lv] s = some (v', s') ∧ OwnV s' v' .u8 (b ++ numsB l) s.next ∧ Ext s s' := by
  rw [F31.eq]
  unfold F31.f F31.p7 F31.p6
  obtain ⟨v1, s1, k1, k2, k3⟩ := clone_u8 hb (by omega) (k + 2)
  have k1' : rn (k + 3) 45 [bv] s = some (v1, s1) := k1
  rw [k1', bnd]
  unfold F31.p5
  simp only
  rw [lenV hv]
  obtain ⟨v', s', j1, j2, j3⟩ := puts_loop k (by omega) hk2 (lo := s.next) (by omega) hu hv.lt (k + 3) 0 s1 v1 b (hv.ext k3) k2 k3.next (by omega) (by omega) (by omega)
  rw [Int.natCast_zero] at j1
  rw [List.drop_zero] at j2
  exact ⟨v', s', j1, j2, ⟨Nat.le_trans k3.next j3.next, fun j hj => (j3.get j hj).trans (k3.get j hj)⟩⟩
end Go.Proofs.Ytkfdgegmahbkiaa.Sim
namespace Go.Proofs.Ytkfdgegmahbkiaa.Sim
set_option linter.unusedSimpArgs false
set_option linter.unusedVariables false

/-- A slice of slices of bytes. -/
def hd (h : AV) : List AV := [h]
theorem hd_len (h : AV) : (hd h).length = 1 := rfl
def Each (s : Store) (hs : List AV) (rows : List (List Int)) : Prop := hs.length = rows.length ∧ ∀ (i : Nat) h r, hs[i]? = some h → rows[i]? = some r → IsV s h .u8 r
def IsVV (s : Store) (v : AV) (rows : List (List Int)) : Prop := ∃ hs, IsL hd 1 s v hs ∧ Each s hs rows
theorem Each.ext {s s' : Store} {hs : List AV} {rows : List (List Int)} (h : Each s hs rows) (e : Ext s s') : Each s' hs rows := ⟨h.1, fun i a r h1 h2 => (h.2 i a r h1 h2).ext e⟩
theorem IsVV.ext {s s' : Store} {v : AV} {rows : List (List Int)} (h : IsVV s v rows) (e : Ext s s') : IsVV s' v rows := by
  obtain ⟨hs, h1, h2⟩ := h
  exact ⟨hs, h1.ext e, h2.ext e⟩
theorem lenVV {s : Store} {v : AV} {rows : List (List Int)} (h : IsVV s v rows) {α : Type} (f : AV → Option α) : aLen v f = f (.int .i64 rows.length) := by
  obtain ⟨hs, h1, h2, _⟩ := h
  rw [lenL h1, h2]
theorem atVV {s0 : Store} {v : AV} {rows : List (List Int)} (h : IsVV s0 v rows) {i : Nat} (hi : i < rows.length) : ∃ p hh, (∀ {α : Type} (kk : IntKind) (f : AV → Option α), aIndexSl 1 v (.int kk (i : Int)) f = f p) ∧ (∀ {s : Store}, Ext s0 s → ∀ {α : Type} (f : AV → Option α), aLoad1 p s f = f hh) ∧ IsV s0 hh .u8 rows[i] := by
  obtain ⟨hs, h1, h2, h3⟩ := h
  have hih : i < hs.length := by omega
  rcases h1 with ⟨_, rfl⟩ | ⟨id, ro, rfl, hid, hg⟩
  · simp at hih
  · exact ⟨_, hs[i], fun kk f => idxL hih f, fun e => fun f => fldL (j := 0) hd_len ((e.get id hid).trans hg) hih rfl f, h3 i _ _ (List.getElem?_eq_getElem hih) (List.getElem?_eq_getElem hi)⟩
theorem Ext.lo' {s0 s s' : Store} (e : Ext s0 s) (k : ExtLo s0.next s s') : Ext s0 s' := ⟨Nat.le_trans e.next k.next, fun l hl => (k.get l hl).trans (e.get l hl)⟩

def rowB (r : List Int) : List Int := numB r.length ++ r
/-- The reference's Num. -/
theorem rnum_loop (k : Nat) {lo : Nat} : ∀ (n : Nat) (s : Store) (v : AV) (xs : List Int) (m : Int), OwnV s v .u8 xs lo → lo ≤ s.next → 0 ≤ m → m < 18446744073709551616 → xs.length + n ≤ 1000000 → wid m < n →
    ∃ v' s', F29.l0 k n (.int .u64 m) v s = F29.p0 k v' s' ∧ OwnV s' v' .u8 (xs ++ leI 8 m) lo ∧ ExtLo lo s s'
  | 0, s, v, xs, m, _, _, _, _, _, hn => by omega
  | n + 1, s, v, xs, m, ho, hlo, h0, h1, hb, hn => by
    have hs : F29.l0 k (n + 1) = fun x0 x3 s => F29.p2 k (F29.l0 k n) x0 x3 s := rfl
    rw [hs]
    clear hs
    simp only
    unfold F29.p2
    rw [gtr_i]
    by_cases hm : m = 0
    · subst hm
      rw [decide_eq_false (by omega), if_f]
      exact ⟨v, s, rfl, by simpa [leI] using ho, ExtLo.refl _ _⟩
    · have hw := wid_step (n := m) (by omega) h1
      rw [decide_eq_true (by omega), if_t]
      unfold F29.p1
      rw [rem_i h0 (by omega), conv_i, byte_of, build_1, show m % 256 % 256 = m % 256 by omega]
      obtain ⟨v1, s1, k1, k2, k3, _⟩ := app1V (bytes := 1) ho hlo (m % 256) (by omega) (by omega)
      rw [k1, quo_i h0 (by omega), w_u64 (by omega) (by omega)]
      have e8 := leI_8 (n := m) (by omega) h1
      obtain ⟨v', s', j1, j2, j3⟩ := rnum_loop k n s1 v1 (xs ++ [m % 256]) (m / 256) k2 (Nat.le_trans hlo k3.next) (by omega) (by omega) (by simp; omega) (by omega)
      refine ⟨v', s', j1, ?_, k3.trans j3⟩
      rw [e8, List.append_cons]; exact j2
theorem rnum_run {s : Store} {n : Int} (h0 : 0 ≤ n) (h1 : n < 18446744073709551616) (k : Nat) (hk : 20 ≤ k) (hk2 : k ≤ 100000) : ∃ v' s', rn (k + 1) 29 [.int .u64 n] s = some (v', s') ∧ OwnV s' v' .u8 (numB n) s.next ∧ Ext s s' := by
  rw [F29.eq]
  unfold F29.f F29.p4 F29.p3
  rw [build_0]
  have e0 := Ext.push s (.cells [] false)
  have o0 : OwnV (s.push (.cells [] false)) (.sl s.next 0 0 1 0) .u8 [] s.next := .inr ⟨s.next, rfl, Nat.le_refl _, Nat.lt_succ_self _, by rw [get_push, if_pos rfl]; rfl⟩
  have hw := leI_len 8 n
  have hwd : wid n = (leI 8 n).length := rfl
  obtain ⟨v1, s1, k1, k2, k3⟩ := rnum_loop k (lo := s.next) k _ _ [] n o0 e0.next h0 h1 (by simp; omega) (by omega)
  rw [List.nil_append] at k2
  have e1 := e0.lo' k3
  have hk2n := k2.is
  rw [k1]
  unfold F29.p0
  rw [lenV k2.is, conv_i, byte_of, build_1, show ((leI 8 n).length : Int) % 256 = ((leI 8 n).length : Int) by omega]
  have e2 := Ext.push s1 (.cells [.int .u8 ((leI 8 n).length : Int)] false)
  have o2 : OwnV (s1.push (.cells [.int .u8 ((leI 8 n).length : Int)] false)) (.sl s1.next 0 1 1 1) .u8 [((leI 8 n).length : Int)] s1.next := .inr ⟨s1.next, rfl, Nat.le_refl _, Nat.lt_succ_self _, by rw [get_push, if_pos rfl]; rfl⟩
  obtain ⟨v', s', j1, j2, j3, _⟩ := appV (bytes := 1) o2 e2.next (k2.is.ext e2) (by simp; omega) (by omega)
  rw [j1]
  have e3 : Ext s1 s' := ⟨Nat.le_trans e2.next j3.next, fun l hl => (j3.get l hl).trans (e2.get l hl)⟩
  exact ⟨v', s', rfl, j2.mono e1.next, e1.trans e3⟩
end Go.Proofs.Ytkfdgegmahbkiaa.Sim
namespace Go.Proofs.Ytkfdgegmahbkiaa.Sim
set_option linter.unusedSimpArgs false
set_option linter.unusedVariables false

/-- All rows but two are as they were. -/
structure Fr2 (a : Nat) (s s' : Store) : Prop where
  next : s.next ≤ s'.next
  get : ∀ l, l < s.next → l ≠ a → l ≠ a + 1 → s'.get l = s.get l
theorem Fr2.refl (a : Nat) (s : Store) : Fr2 a s s := ⟨Nat.le_refl _, fun _ _ _ _ => rfl⟩
theorem Fr2.trans {a : Nat} {s s' s'' : Store} (h : Fr2 a s s') (k : Fr2 a s' s'') : Fr2 a s s'' := ⟨Nat.le_trans h.next k.next, fun l hl h1 h2 => (k.get l (Nat.lt_of_lt_of_le hl h.next) h1 h2).trans (h.get l hl h1 h2)⟩
theorem Fr2.ext {a : Nat} {s0 s s' : Store} (e : Ext s0 s) (h : Fr2 a s s') (ha : s0.next ≤ a) : Ext s0 s' := ⟨Nat.le_trans e.next h.next, fun l hl => (h.get l (Nat.lt_of_lt_of_le hl e.next) (by omega) (by omega)).trans (e.get l hl)⟩
section
variable {x0 x1 x2 x7 : AV} {a : Nat} {s0 : Store}

end

end Go.Proofs.Ytkfdgegmahbkiaa.Sim
namespace Go.Proofs.Ytkfdgegmahbkiaa.Sim
set_option linter.unusedSimpArgs false
set_option linter.unusedVariables false

/-- The number that bytes make, the last one first. -/
def valI : List Int → Int
  | [] => 0
  | d :: ds => d + 256 * valI ds
theorem valI_bnd : ∀ (l : List Int), (∀ x ∈ l, 0 ≤ x ∧ x < 256) → 0 ≤ valI l ∧ valI l < 256 ^ l.length
  | [], _ => ⟨Int.le_refl _, by simp [valI]⟩
  | d :: ds, h => by
    obtain ⟨h1, h2⟩ := valI_bnd ds fun x hx => h x (List.mem_cons_of_mem _ hx)
    have hd := h d List.mem_cons_self
    rw [valI, List.length_cons, Int.pow_succ]
    omega
theorem valI_snoc : ∀ (l : List Int) (x : Int), valI (l ++ [x]) = valI l + x * 256 ^ l.length
  | [], x => by simp [valI]
  | d :: ds, x => by
    rw [List.cons_append, valI, valI, valI_snoc ds x, List.length_cons, Int.pow_succ, Int.mul_add, ← Int.mul_assoc x, Int.mul_comm (x * 256 ^ ds.length) 256]
    omega
/-- Bytes whose last one isn't zero are a number's own. -/
theorem le_valI : ∀ (l : List Int) (f : Nat), l.length ≤ f → (∀ x ∈ l, 0 ≤ x ∧ x < 256) → (∀ h : l ≠ [], l.getLast h ≠ 0) → leI f (valI l) = l
  | [], f, _, _, _ => by cases f <;> simp [leI, valI]
  | d :: ds, f, hf, hu, hl => by
    obtain ⟨f, rfl⟩ : ∃ q, f = q + 1 := ⟨f - 1, by simp at hf; omega⟩
    have hd := hu d List.mem_cons_self
    have hds := fun x hx => hu x (List.mem_cons_of_mem d hx)
    have hb := valI_bnd ds hds
    have ih := le_valI ds f (by simpa using hf) hds (fun h => by have := hl (by simp); rwa [List.getLast_cons h] at this)
    have hne : valI (d :: ds) ≠ 0 := by
      rw [valI]
      cases ds with
      | nil => have := hl (by simp); simp at this; simp [valI]; omega
      | cons e es =>
        intro q
        have hz : valI (e :: es) = 0 := by omega
        rw [hz] at ih
        have : leI f 0 = [] := by cases f <;> simp [leI]
        rw [this] at ih
        cases ih
    rw [leI_succ, if_neg hne]
    have e1 : valI (d :: ds) % 256 = d := by rw [valI]; omega
    have e2 : valI (d :: ds) / 256 = valI ds := by rw [valI]; omega
    rw [e1, e2, ih]
/-- The number in front of bytes: it, what stands behind it, the error. -/
def numR (b : List Int) (most : Int) : Int × List Int × Int :=
  match b with
  | [] => (0, [], 2)
  | k :: r => if k > 8 then (0, [], 3) else if k > r.length then (0, [], 2) else if k > 0 ∧ r.getD (k - 1).toNat 0 = 0 then (0, [], 3)
    else if valI (r.take k.toNat) > most then (0, [], 6) else (valI (r.take k.toNat), r.drop k.toNat, 0)

theorem p256 (i : Nat) : ((256 ^ i : Nat) : Int) = (256 : Int) ^ i := Int.natCast_pow 256 i
theorem or_disj {a x : Int} {i : Nat} (ha0 : 0 ≤ a) (ha : a < 256 ^ i) (hx0 : 0 ≤ x) (hx : x < 256) (hi : i ≤ 7) : (BitVec.ofInt 64 a ||| BitVec.ofInt 64 (x * 256 ^ i)).toNat = (a + x * 256 ^ i).toNat := by
  obtain ⟨A, rfl⟩ : ∃ A : Nat, a = A := ⟨a.toNat, by omega⟩
  obtain ⟨X, rfl⟩ : ∃ X : Nat, x = X := ⟨x.toNat, by omega⟩
  have hA : A < 256 ^ i := by rw [← p256] at ha; omega
  have hX : X < 256 := by omega
  have hp : 256 ^ i ≤ 256 ^ 7 := Nat.pow_le_pow_right (by omega) hi
  have h7 : (256 : Nat) ^ 7 = 72057594037927936 := rfl
  have hXi : X * 256 ^ i ≤ 255 * 256 ^ 7 := Nat.mul_le_mul (by omega) hp
  have e : ((X : Int) * 256 ^ i) = ((X * 256 ^ i : Nat) : Int) := by rw [Int.natCast_mul, p256]
  rw [e, BitVec.ofInt_natCast, BitVec.ofInt_natCast, BitVec.toNat_or, BitVec.toNat_ofNat, BitVec.toNat_ofNat, Nat.mod_eq_of_lt (by omega), Nat.mod_eq_of_lt (by omega)]
  have e2 : (256 : Nat) ^ i = 2 ^ (8 * i) := by rw [Nat.pow_mul]
  have e3 : X * 256 ^ i = X <<< (8 * i) := by rw [Nat.shiftLeft_eq, e2]
  rw [← Int.natCast_add, Int.toNat_natCast, e3, Nat.or_comm, ← Nat.shiftLeft_add_eq_or_of_lt (by rw [← e2]; exact hA), Nat.add_comm]

theorem number_loop (k : Nat) {s : Store} {rv x1 : AV} {r : List Int} {kk : Nat} (hv : IsV s rv .u8 r) (hu : ∀ x ∈ r, 0 ≤ x ∧ x < 256) (hk : kk ≤ 8) (hkr : kk ≤ r.length) : ∀ (n i : Nat), i ≤ kk → kk - i < n →
    F62.l0 k n rv x1 (.int .i64 kk) (.int .u64 (valI (r.take i))) (.int .i64 kk) (.int .i64 i) s = F62.p2 k rv x1 (.int .i64 kk) (.int .u64 (valI (r.take kk))) s
  | 0, i, hi, hn => by omega
  | n + 1, i, hi, hn => by
    have hs : F62.l0 k (n + 1) = fun x0 x1 x7 x8 x38 x39 s => F62.p6 k (F62.l0 k n) x0 x1 x7 x8 x38 x39 s := rfl
    rw [hs]
    clear hs
    simp only
    unfold F62.p6 F62.p5
    rw [lss_i]
    by_cases h : i < kk
    · rw [decide_eq_true (by omega), if_t]
      unfold F62.p4 F62.p3
      have hw1 : IntKind.i64.wrap ((i : Int) + 1) = ((i + 1 : Nat) : Int) := by rw [w_i64 (by omega) (by omega)]; omega
      obtain ⟨p, p1, p2⟩ := atV hv (show (0 : Int) ≤ i by omega) (by omega)
      have hir : i < r.length := by omega
      have eg : r.getD (i : Int).toNat 0 = r[i] := by simp [hir]
      have hx := hu _ (List.getElem_mem hir)
      have hb := valI_bnd (r.take i) fun x hx => hu x (List.mem_of_mem_take hx)
      have hlt : (r.take i).length = i := by simp; omega
      rw [hlt] at hb
      have h8 : (256 : Int) ^ i ≤ 256 ^ 7 := by
        have : (256 : Nat) ^ i ≤ 256 ^ 7 := Nat.pow_le_pow_right (by omega) (by omega)
        rw [← p256 i, ← p256 7]; exact Int.ofNat_le.2 this
      have h7 : (256 : Int) ^ 7 = 72057594037927936 := rfl
      have hpos : 0 < (256 : Int) ^ i := Int.pow_pos (by omega)
      have hmul : r[i] * 256 ^ i ≤ 255 * 256 ^ i := Int.mul_le_mul_of_nonneg_right (by omega) (by omega)
      have hmul0 : 0 ≤ r[i] * 256 ^ i := Int.mul_nonneg hx.1 (by omega)
      have hsum : valI (r.take i) + r[i] * 256 ^ i < 18446744073709551616 := by
        have : (255 : Int) * 256 ^ i ≤ 255 * 72057594037927936 := Int.mul_le_mul_of_nonneg_left (by omega) (by omega)
        omega
      have hshl : ∀ {α : Type} (f : AV → Option α), aShift .shl (.int .u64 r[i]) (.int .i64 (8 * (i : Int))) f = f (.int .u64 (r[i] * 256 ^ i)) := by
        intro α f
        have e1 : min (8 * (i : Int)).toNat IntKind.u64.bits = 8 * i := by simp [IntKind.bits]; omega
        simp only [aShift, if_neg (show ¬ (8 * (i : Int)) < 0 by omega), e1]
        have e2 : (2 : Int) ^ (8 * i) = 256 ^ i := by rw [Int.pow_mul]; rfl
        rw [e2, w_u64 hmul0 (by omega)]
      have hor : ∀ {α : Type} (f : AV → Option α), aBin .or (.int .u64 (valI (r.take i))) (.int .u64 (r[i] * 256 ^ i)) f = f (.int .u64 (valI (r.take (i + 1)))) := by
        intro α f
        have e1 := or_disj (i := i) hb.1 hb.2 hx.1 hx.2 (by omega)
        simp only [aBin, intBin, if_true]
        rw [show (IntKind.u64.bits) = 64 from rfl, e1, List.take_succ_eq_append_getElem hir, valI_snoc, hlt, Int.toNat_of_nonneg (by omega), w_u64 (by omega) hsum]
      have hmul8 : IntKind.i64.wrap (8 * (i : Int)) = 8 * (i : Int) := w_i64 (by omega) (by omega)
      have hm : ∀ {α : Type} (f : AV → Option α), aBin .mul (.int .i64 8) (.int .i64 (i : Int)) f = f (.int .i64 (8 * (i : Int))) := by
        intro α f
        simp only [aBin, intBin, if_true, hmul8]
      rw [p1, p2, eg, conv_i, w_u64 (by omega) (by omega), hm, hshl, hor, add_i, hw1]
      exact number_loop k hv hu hk hkr n (i + 1) (by omega) (by omega)
    · rw [decide_eq_false (by omega), if_f, show i = kk by omega]

theorem number_run {s : Store} {bv : AV} {b : List Int} {most : Int} (hv : IsV s bv .u8 b) (hu : ∀ x ∈ b, 0 ≤ x ∧ x < 256) (hb : b.length ≤ 1000000) (k : Nat) (hk : 20 ≤ k) : ∃ lv, rn (k + 1) 62 [bv, .int .u64 most] s = some (.tuple [.int .u64 (numR b most).1, lv, .int .i64 (numR b most).2.2], s) ∧ IsV s lv .u8 (numR b most).2.1 ∧ (∀ a b c d f, lv = .sl a b c d f → ∃ b c d f, bv = .sl a b c d f) := by
  rw [F62.eq]
  unfold F62.f F62.p13 F62.p12
  rw [lenV hv, eql_i]
  cases b with
  | nil =>
    rw [show (((([] : List Int).length : Nat) : Int) == 0) = true from rfl, if_t]
    exact ⟨.nilsl, rfl, .inl ⟨rfl, rfl⟩, fun a b c d f e => by cases e⟩
  | cons k0 r =>
    have hz : ((((k0 :: r).length : Nat) : Int) == 0) = false := beq_eq_false_iff_ne.2 (by simp only [List.length_cons]; omega)
    rw [hz, if_f]
    unfold F62.p11
    obtain ⟨p, p1, p2⟩ := atV hv (show (0 : Int) ≤ 0 by omega) (by simp only [List.length_cons]; omega)
    have hk0 := hu k0 List.mem_cons_self
    have hur := fun x hx => hu x (List.mem_cons_of_mem k0 hx)
    have e0 : (k0 :: r).getD (0 : Int).toNat 0 = k0 := rfl
    rw [p1, p2, e0, conv_i, w_i64 (by omega) (by omega)]
    unfold F62.p10
    obtain ⟨rv, r1, _, r3, _, r2⟩ := sliceV hv (a := 1) (b := (k0 :: r).length) (by simp) (Nat.le_refl _)
    have r2' : ∀ {α : Type} (f : AV → Option α), aSliceSl 1 bv (some (.int .i64 1)) none f = f rv := fun f => r2 rfl .i64 f
    have r1' : IsV s rv .u8 r := by
      have e : (((k0 :: r).drop 1).take ((k0 :: r).length - 1)) = r := by simp
      rw [e] at r1; exact r1
    rw [r2']
    unfold F62.p9
    rw [gtr_i]
    by_cases h1 : k0 > 8
    · have e : numR (k0 :: r) most = (0, [], 3) := by unfold numR; simp only; rw [if_pos h1]
      rw [decide_eq_true h1, if_t, e]
      exact ⟨.nilsl, rfl, .inl ⟨rfl, rfl⟩, fun a b c d f e => by cases e⟩
    · rw [decide_eq_false h1, if_f, lenV r1', gtr_i]
      by_cases h2 : k0 > (r.length : Int)
      · have e : numR (k0 :: r) most = (0, [], 2) := by unfold numR; simp only; rw [if_neg h1, if_pos h2]
        rw [decide_eq_true h2, if_t, e]
        exact ⟨.nilsl, rfl, .inl ⟨rfl, rfl⟩, fun a b c d f e => by cases e⟩
      · obtain ⟨kk, hkk⟩ : ∃ kk : Nat, k0 = kk := ⟨k0.toNat, by omega⟩
        subst hkk
        have hgo : ¬ ((kk : Int) > 0 ∧ r.getD ((kk : Int) - 1).toNat 0 = 0) → ∃ lv, F62.p8 k rv (.int .u64 most) (.int .i64 kk) s = some (.tuple [.int .u64 (numR ((kk : Int) :: r) most).1, lv, .int .i64 (numR ((kk : Int) :: r) most).2.2], s) ∧ IsV s lv .u8 (numR ((kk : Int) :: r) most).2.1 ∧ (∀ a b c d f, lv = .sl a b c d f → ∃ b c d f, bv = .sl a b c d f) := by
          intro h3
          have hl := number_loop k (x1 := .int .u64 most) (kk := kk) r1' hur (by omega) (by omega) k 0 (by omega) (by omega)
          rw [Int.natCast_zero] at hl
          unfold F62.p8 F62.p7
          rw [show valI (r.take 0) = 0 from rfl] at hl
          rw [hl]
          unfold F62.p2
          rw [gtr_i]
          have hbn := valI_bnd (r.take kk) fun x hx => hur x (List.mem_of_mem_take hx)
          by_cases h4 : valI (r.take kk) > most
          · have e : numR ((kk : Int) :: r) most = (0, [], 6) := by unfold numR; simp only [Int.toNat_natCast]; rw [if_neg h1, if_neg h2, if_neg h3, if_pos h4]
            rw [decide_eq_true h4, if_t, e]
            exact ⟨.nilsl, rfl, .inl ⟨rfl, rfl⟩, fun a b c d f e => by cases e⟩
          · have e : numR ((kk : Int) :: r) most = (valI (r.take kk), r.drop kk, 0) := by unfold numR; simp only [Int.toNat_natCast]; rw [if_neg h1, if_neg h2, if_neg h3, if_neg h4]
            rw [decide_eq_false h4, if_f, e]
            unfold F62.p1 F62.p0
            obtain ⟨lv, l1, _, l3, _, l2⟩ := sliceV r1' (a := kk) (b := r.length) (by omega) (Nat.le_refl _)
            have l2' : ∀ {α : Type} (f : AV → Option α), aSliceSl 1 rv (some (.int .i64 (kk : Int))) none f = f lv := fun f => l2 rfl .i64 f
            have l1' : IsV s lv .u8 (r.drop kk) := by
              have e : ((r.drop kk).take (r.length - kk)) = r.drop kk := List.take_of_length_le (by simp)
              rw [e] at l1; exact l1
            simp only [bnd, guard_tt, guard_ff, guard_tf, guard_ft, pick_t, pick_f, if_t, if_f, add_i, sub_i, lss_i, leq_i, gtr_i, geq_i, eql_i, neq_i, min_i, max_i, conv_i, len_sl, len_nil, not_b, cells_agg, new_s, fld_p, nil_p, l2']
            exact ⟨lv, rfl, l1', fun a b c d f q => by obtain ⟨b', c', d', f', q'⟩ := l3 a b c d f q; exact r3 a b' c' d' f' q'⟩
        rw [decide_eq_false h2, if_f, gtr_i]
        by_cases h3 : (kk : Int) > 0
        · obtain ⟨q, q1, q2⟩ := atV r1' (i := (kk : Int) - 1) (by omega) (by omega)
          simp only [decide_eq_true h3, bnd, guard_tt, guard_ff, guard_tf, guard_ft, pick_t, pick_f, if_t, if_f, add_i, sub_i, lss_i, leq_i, gtr_i, geq_i, eql_i, neq_i, min_i, max_i, conv_i, len_sl, len_nil, not_b, cells_agg, new_s, fld_p, nil_p, w_i64 (show -9223372036854775808 ≤ (kk : Int) - 1 by omega) (show (kk : Int) - 1 < 9223372036854775808 by omega), q1, q2]
          by_cases h4 : r.getD ((kk : Int) - 1).toNat 0 = 0
          · have e : numR ((kk : Int) :: r) most = (0, [], 3) := by unfold numR; simp only; rw [if_neg h1, if_neg h2, if_pos ⟨h3, h4⟩]
            rw [h4, e]
            exact ⟨.nilsl, rfl, .inl ⟨rfl, rfl⟩, fun a b c d f e => by cases e⟩
          · have h4' : (r.getD ((kk : Int) - 1).toNat 0 == 0) = false := by simpa using h4
            rw [h4', if_f]
            exact hgo fun q => h4 q.2
        · simp only [decide_eq_false h3, bnd, guard_tt, guard_ff, guard_tf, guard_ft, pick_t, pick_f, if_t, if_f, add_i, sub_i, lss_i, leq_i, gtr_i, geq_i, eql_i, neq_i, min_i, max_i, conv_i, len_sl, len_nil, not_b, cells_agg, new_s, fld_p, nil_p]
          exact hgo fun q => h3 q.1
end Go.Proofs.Ytkfdgegmahbkiaa.Sim
namespace Go.Proofs.Ytkfdgegmahbkiaa.Sim
set_option linter.unusedSimpArgs false
set_option linter.unusedVariables false

/-- A reader: its struct's row, what stands behind it, its error; 'lo': where its rows lie. -/
def IsRd (s : Store) (id : Nat) (b : List Int) (e : Int) (lo : Nat → Prop) : Prop := ∃ bv, s.get id = .cells [bv, .int .i64 e] false ∧ id < s.next ∧ lo id ∧ IsV s bv .u8 b ∧ ∀ i x c d f, bv = .sl i x c d f → i ≠ id ∧ lo i
theorem IsRd.mono {s : Store} {id : Nat} {b : List Int} {e : Int} {lo lo' : Nat → Prop} (h : IsRd s id b e lo) (k : ∀ i, lo i → lo' i) : IsRd s id b e lo' := by
  obtain ⟨bv, h1, h2, h3, h4, h5⟩ := h
  exact ⟨bv, h1, h2, k _ h3, h4, fun i x c d f q => ⟨(h5 i x c d f q).1, k _ (h5 i x c d f q).2⟩⟩
theorem IsRd.ext {s s' : Store} {id : Nat} {b : List Int} {e : Int} {lo : Nat → Prop} (h : IsRd s id b e lo) (x : Ext s s') : IsRd s' id b e lo := by
  obtain ⟨bv, h1, h2, h3, h4, h5⟩ := h
  exact ⟨bv, (x.get id h2).trans h1, Nat.lt_of_lt_of_le h2 x.next, h3, h4.ext x, h5⟩
section
variable {s : Store} {id : Nat} {lo : Nat → Prop} {b : List Int} {e : Int}

theorem ld_f0 {bv : AV} {x : Int} (hg : s.get id = .cells [bv, .int .i64 x] false) {α : Type} (f : AV → Option α) : aLoad1 (.ptr id (0 + 0) 2) s f = f bv := load_1 hg rfl rfl
theorem ld_f1 {bv : AV} {x : Int} (hg : s.get id = .cells [bv, .int .i64 x] false) {α : Type} (f : AV → Option α) : aLoad1 (.ptr id (0 + 1) 2) s f = f (.int .i64 x) := load_1 hg rfl rfl
theorem st_f1 {bv : AV} {x y : Int} (hg : s.get id = .cells [bv, .int .i64 x] false) {α : Type} (f : Store → Option α) : aStore 1 (.ptr id (0 + 1) 2) (.int .i64 y) s f = f (s.set id (.cells [bv, .int .i64 y] false)) := by
  simp [aStore, aCells, aOwn, hg, putAll]
theorem st_f0 {bv cv : AV} {x : Int} {k : IntKind} {xs : List Int} {t : Store} (hg : s.get id = .cells [bv, .int .i64 x] false) (hc : IsV t cv k xs) {α : Type} (f : Store → Option α) : aStore 1 (.ptr id (0 + 0) 2) cv s f = f (s.set id (.cells [cv, .int .i64 x] false)) := by
  simp [aStore, cellsV hc, aOwn, hg, putAll]
theorem eq_pn (l o ep : Nat) {α : Type} (f : Bool → Option α) : aEq .ptr (.ptr l o ep) .nilptr f = f false := rfl

theorem ready_run (h : IsRd s id b e lo) (k : Nat) : rn (k + 1) 61 [.ptr id 0 2] s = some (.bool (e == 0), s) := by
  obtain ⟨bv, h1, h2, h3, h4, h5⟩ := h
  rw [F61.eq]
  unfold F61.f F61.p0
  simp only [eq_pn, Bool.not_false, bnd, guard_tt, guard_ff, guard_tf, guard_ft, pick_t, pick_f, if_t, if_f, add_i, sub_i, lss_i, leq_i, gtr_i, geq_i, eql_i, neq_i, min_i, max_i, conv_i, len_sl, len_nil, not_b, cells_agg, new_s, fld_p, nil_p, ld_f1 h1]
theorem left_run (h : IsRd s id b e lo) (k : Nat) : rn (k + 1) 43 [.ptr id 0 2] s = some (.int .i64 b.length, s) := by
  obtain ⟨bv, h1, h2, h3, h4, h5⟩ := h
  rw [F43.eq]
  unfold F43.f F43.p0
  simp only [eq_pn, bnd, guard_tt, guard_ff, guard_tf, guard_ft, pick_t, pick_f, if_t, if_f, add_i, sub_i, lss_i, leq_i, gtr_i, geq_i, eql_i, neq_i, min_i, max_i, conv_i, len_sl, len_nil, not_b, cells_agg, new_s, fld_p, nil_p, ld_f0 h1, lenV h4]
theorem err_run (h : IsRd s id b e lo) (k : Nat) : rn (k + 1) 44 [.ptr id 0 2] s = some (.int .i64 e, s) := by
  obtain ⟨bv, h1, h2, h3, h4, h5⟩ := h
  rw [F44.eq]
  unfold F44.f F44.p0
  simp only [eq_pn, bnd, guard_tt, guard_ff, guard_tf, guard_ft, pick_t, pick_f, if_t, if_f, add_i, sub_i, lss_i, leq_i, gtr_i, geq_i, eql_i, neq_i, min_i, max_i, conv_i, len_sl, len_nil, not_b, cells_agg, new_s, fld_p, nil_p, ld_f1 h1]
def endR (b : List Int) (e : Int) : Int := if e = 0 ∧ 0 < b.length then 4 else e
theorem end_run (h : IsRd s id b e lo) (k : Nat) : rn (k + 2) 20 [.ptr id 0 2] s = some (.int .i64 (endR b e), s) := by
  rw [F20.eq]
  unfold F20.f F20.p0 endR
  simp only [err_run h, bnd, guard_tt, guard_ff, guard_tf, guard_ft, pick_t, pick_f, if_t, if_f, add_i, sub_i, lss_i, leq_i, gtr_i, geq_i, eql_i, neq_i, min_i, max_i, conv_i, len_sl, len_nil, not_b, cells_agg, new_s, fld_p, nil_p]
  by_cases he : e = 0
  · subst he
    simp only [beq_self_eq_true, bnd, guard_tt, guard_ff, guard_tf, guard_ft, pick_t, pick_f, if_t, if_f, add_i, sub_i, lss_i, leq_i, gtr_i, geq_i, eql_i, neq_i, min_i, max_i, conv_i, len_sl, len_nil, not_b, cells_agg, new_s, fld_p, nil_p, left_run h]
    by_cases hb : 0 < b.length
    · rw [decide_eq_true (show (b.length : Int) > 0 by omega), if_t]; simp [hb]
    · rw [decide_eq_false (show ¬ (b.length : Int) > 0 by omega), if_f, err_run h, bnd]; simp [hb]
  · have he' : (e == 0) = false := by simpa using he
    simp only [he', bnd, guard_tt, guard_ff, guard_tf, guard_ft, pick_t, pick_f, if_t, if_f, add_i, sub_i, lss_i, leq_i, gtr_i, geq_i, eql_i, neq_i, min_i, max_i, conv_i, len_sl, len_nil, not_b, cells_agg, new_s, fld_p, nil_p, err_run h]
    rw [if_neg (fun q => he q.1)]

theorem new_run {bv : AV} (hv : IsV s bv .u8 b) (hb : b.length ≤ 1000000) (k : Nat) : ∃ id s', rn (k + 2) 18 [bv] s = some (.ptr id 0 2, s') ∧ IsRd s' id b 0 (fun i => s.next ≤ i ∧ i < s'.next) ∧ Ext s s' := by
  rw [F18.eq]
  unfold F18.f F18.p0
  obtain ⟨cv, s1, k1, o1, e1⟩ := clone_u8 hv hb k
  rw [k1, bnd]
  have hb2 : ∀ f : List AV → Option (AV × Store), aBuild [(0, 1, cv)] [AV.nilsl, AV.int .i64 0] f = f [cv, .int .i64 0] := by
    intro f
    simp only [aBuild, cellsV o1.is]
    simp [putAll]
  simp only
  rw [hb2, cells_agg, new_s]
  have e2 := Ext.push s1 (.cells [cv, .int .i64 0] false)
  refine ⟨s1.next, _, rfl, ⟨cv, by rw [get_push, if_pos rfl], Nat.lt_succ_self _, ⟨e1.next, Nat.lt_succ_self _⟩, o1.is.ext e2, fun i x c d f hj => ?_⟩, e1.trans e2⟩
  rcases o1 with ⟨q, _⟩ | ⟨j, q, i1, i2, _⟩
  · rw [q] at hj; cases hj
  · rw [q] at hj; cases hj; exact ⟨by omega, i1, by rw [next_push]; omega⟩

def rdNum (b : List Int) (e most : Int) : Int × List Int × Int := if e ≠ 0 then (0, b, e) else if (numR b most).2.2 ≠ 0 then (0, b, (numR b most).2.2) else numR b most
theorem num_run (h : IsRd s id b e lo) (hu : ∀ x ∈ b, 0 ≤ x ∧ x < 256) (hb : b.length ≤ 1000000) (most : Int) (k : Nat) (hk : 20 ≤ k) : ∃ s', rn (k + 2) 42 [.ptr id 0 2, .int .u64 most] s = some (.int .u64 (rdNum b e most).1, s') ∧ IsRd s' id (rdNum b e most).2.1 (rdNum b e most).2.2 lo ∧ Fr1 id s s' := by
  rw [F42.eq]
  unfold F42.f F42.p0 rdNum
  rw [ready_run h, bnd, not_b]
  by_cases he : e = 0
  · subst he
    have h' := h
    obtain ⟨bv, h1, h2, h3, h4, h5⟩ := h
    obtain ⟨lv, n1, n2, n3⟩ := number_run (most := most) h4 hu hb k hk
    have ex : ∀ (x y z : AV) {α : Type} (f : AV → Option α), aExtract 0 (.tuple [x, y, z]) f = f x ∧ aExtract 1 (.tuple [x, y, z]) f = f y ∧ aExtract 2 (.tuple [x, y, z]) f = f z := fun x y z α f => ⟨rfl, rfl, rfl⟩
    simp only [beq_self_eq_true, Bool.not_true, bnd, guard_tt, guard_ff, guard_tf, guard_ft, pick_t, pick_f, if_t, if_f, add_i, sub_i, lss_i, leq_i, gtr_i, geq_i, eql_i, neq_i, min_i, max_i, conv_i, len_sl, len_nil, not_b, cells_agg, new_s, fld_p, nil_p, ld_f0 h1, n1, (ex _ _ _ _).1, (ex _ _ _ _).2.1, (ex _ _ _ _).2.2, ne_eq, not_true, if_false]
    by_cases hx : (numR b most).2.2 = 0
    · have hx' : ((numR b most).2.2 != 0) = false := by simp [hx]
      have hoff : ∀ i x c d f, lv = .sl i x c d f → i ≠ id ∧ lo i := fun i x c d f q => by
        obtain ⟨x', c', d', f', q'⟩ := n3 i x c d f q
        exact h5 i x' c' d' f' q'
      rw [hx', if_f, st_f0 h1 n2, if_neg (fun q => q hx)]
      refine ⟨_, rfl, ⟨lv, by rw [get_set, if_pos rfl, hx], h2, h3, n2.fr1 (Fr1.set id s _) fun i x c d f q => (hoff i x c d f q).1, hoff⟩, Fr1.set id s _⟩
    · have hx' : ((numR b most).2.2 != 0) = true := by simpa using hx
      rw [hx', if_t, st_f1 h1, if_pos hx]
      exact ⟨_, rfl, ⟨bv, by rw [get_set, if_pos rfl], h2, h3, h4.fr1 (Fr1.set id s _) fun i x c d f q => (h5 i x c d f q).1, h5⟩, Fr1.set id s _⟩
  · have he' : (e == 0) = false := by simpa using he
    rw [he', if_pos he]
    exact ⟨s, rfl, h, Fr1.refl _ _⟩

def rdRow (b : List Int) (e most : Int) : List Int × List Int × Int := if e ≠ 0 then ([], b, e) else if (numR b 18446744073709551615).2.2 ≠ 0 then ([], b, (numR b 18446744073709551615).2.2)
  else if (numR b 18446744073709551615).1 > max most 0 then ([], b, 4) else if (numR b 18446744073709551615).1 > (numR b 18446744073709551615).2.1.length then ([], b, 2)
  else ((numR b 18446744073709551615).2.1.take (numR b 18446744073709551615).1.toNat, (numR b 18446744073709551615).2.1.drop (numR b 18446744073709551615).1.toNat, 0)
theorem numR_nn {b : List Int} (hu : ∀ x ∈ b, 0 ≤ x ∧ x < 256) (most : Int) : 0 ≤ (numR b most).1 := by
  unfold numR
  split
  · exact Int.le_refl _
  · rename_i k r
    split
    · exact Int.le_refl _
    · split
      · exact Int.le_refl _
      · split
        · exact Int.le_refl _
        · split
          · exact Int.le_refl _
          · exact (valI_bnd _ fun x hx => hu x (List.mem_cons_of_mem _ (List.mem_of_mem_take hx))).1
theorem numR_len (b : List Int) (most : Int) : (numR b most).2.1.length ≤ b.length := by
  unfold numR
  split
  · simp
  · rename_i k r
    split
    · simp
    · split
      · simp
      · split
        · simp
        · split
          · simp
          · simp; omega
theorem row_run (h : IsRd s id b e lo) (hu : ∀ x ∈ b, 0 ≤ x ∧ x < 256) (hb : b.length ≤ 1000000) (most : Int) (hm : most < 9223372036854775808) (k : Nat) (hk : 20 ≤ k) : ∃ v s', rn (k + 2) 98 [.ptr id 0 2, .int .i64 most] s = some (v, s') ∧ IsV s' v .u8 (rdRow b e most).1 ∧ IsRd s' id (rdRow b e most).2.1 (rdRow b e most).2.2 lo ∧ Fr1 id s s' := by
  rw [F98.eq]
  unfold F98.f F98.p4 F98.p3 rdRow
  rw [ready_run h, bnd, not_b]
  by_cases he : e = 0
  · subst he
    have h' := h
    obtain ⟨bv, h1, h2, h3, h4, h5⟩ := h
    obtain ⟨lv, n1, n2, n3⟩ := number_run (most := 18446744073709551615) h4 hu hb k hk
    have hnn := numR_nn hu 18446744073709551615
    have hln := numR_len b 18446744073709551615
    have ex : ∀ (x y z : AV) {α : Type} (f : AV → Option α), aExtract 0 (.tuple [x, y, z]) f = f x ∧ aExtract 1 (.tuple [x, y, z]) f = f y ∧ aExtract 2 (.tuple [x, y, z]) f = f z := fun x y z α f => ⟨rfl, rfl, rfl⟩
    unfold F98.p2
    simp only [beq_self_eq_true, Bool.not_true, bnd, guard_tt, guard_ff, guard_tf, guard_ft, pick_t, pick_f, if_t, if_f, add_i, sub_i, lss_i, leq_i, gtr_i, geq_i, eql_i, neq_i, min_i, max_i, conv_i, len_sl, len_nil, not_b, cells_agg, new_s, fld_p, nil_p, ld_f0 h1, n1, (ex _ _ _ _).1, (ex _ _ _ _).2.1, (ex _ _ _ _).2.2, ne_eq, not_true, if_false]
    generalize numR b 18446744073709551615 = R at *
    obtain ⟨n, left, er⟩ := R
    simp only at *
    have bad : ∀ y : Int, IsRd (s.set id (.cells [bv, .int .i64 y] false)) id b y lo := fun y => ⟨bv, by rw [get_set, if_pos rfl], h2, h3, h4.fr1 (Fr1.set id s _) fun i x c d f q => (h5 i x c d f q).1, h5⟩
    have hoff : ∀ i x c d f, lv = .sl i x c d f → i ≠ id ∧ lo i := fun i x c d f q => by
      obtain ⟨x', c', d', f', q'⟩ := n3 i x c d f q
      exact h5 i x' c' d' f' q'
    unfold F98.p1 F98.p0
    rw [neq_i]
    by_cases hx : er = 0
    · subst hx
      simp only [bne_self_eq_false, bnd, guard_tt, guard_ff, guard_tf, guard_ft, pick_t, pick_f, if_t, if_f, add_i, sub_i, lss_i, leq_i, gtr_i, geq_i, eql_i, neq_i, min_i, max_i, conv_i, len_sl, len_nil, not_b, cells_agg, new_s, fld_p, nil_p, not_true, if_false]
      by_cases hc : n > max most 0
      · have hw : IntKind.u64.wrap (max most 0) = max most 0 := w_u64 (by omega) (by omega)
        simp only [hw, decide_eq_true hc, bnd, guard_tt, guard_ff, guard_tf, guard_ft, pick_t, pick_f, if_t, if_f, add_i, sub_i, lss_i, leq_i, gtr_i, geq_i, eql_i, neq_i, min_i, max_i, conv_i, len_sl, len_nil, not_b, cells_agg, new_s, fld_p, nil_p, st_f1 h1, if_pos hc]
        exact ⟨_, _, rfl, .inl ⟨rfl, rfl⟩, bad 4, Fr1.set id s _⟩
      · have hw : IntKind.u64.wrap (max most 0) = max most 0 := w_u64 (by omega) (by omega)
        simp only [hw, decide_eq_false hc, bnd, guard_tt, guard_ff, guard_tf, guard_ft, pick_t, pick_f, if_t, if_f, add_i, sub_i, lss_i, leq_i, gtr_i, geq_i, eql_i, neq_i, min_i, max_i, conv_i, len_sl, len_nil, not_b, cells_agg, new_s, fld_p, nil_p, lenV n2, if_neg hc]
        by_cases hd : n > (left.length : Int)
        · by_cases hbig : (left.length : Int) < 18446744073709551616
          · simp only [w_u64 (show (0 : Int) ≤ left.length by omega) hbig, decide_eq_true hd, bnd, guard_tt, guard_ff, guard_tf, guard_ft, pick_t, pick_f, if_t, if_f, add_i, sub_i, lss_i, leq_i, gtr_i, geq_i, eql_i, neq_i, min_i, max_i, conv_i, len_sl, len_nil, not_b, cells_agg, new_s, fld_p, nil_p, st_f1 h1, if_pos hd]
            exact ⟨_, _, rfl, .inl ⟨rfl, rfl⟩, bad 2, Fr1.set id s _⟩
          · omega
        · have hbig : (left.length : Int) < 18446744073709551616 := by omega
          obtain ⟨nn, hnn2⟩ : ∃ nn : Nat, n = nn := ⟨n.toNat, by omega⟩
          subst hnn2
          obtain ⟨dv, d1, _, d3, _, d2⟩ := sliceV n2 (a := nn) (b := left.length) (by omega) (Nat.le_refl _)
          have d2' : ∀ {α : Type} (f : AV → Option α), aSliceSl 1 lv (some (.int .u64 (nn : Int))) none f = f dv := fun f => d2 rfl .u64 f
          have d1' : IsV s dv .u8 (left.drop nn) := by
            have e : ((left.drop nn).take (left.length - nn)) = left.drop nn := List.take_of_length_le (by simp)
            rw [e] at d1; exact d1
          obtain ⟨tv, t1, _, t3, t2, _⟩ := sliceV n2 (a := 0) (b := nn) (Nat.zero_le _) (by omega)
          have t2' : ∀ {α : Type} (f : AV → Option α), aSliceSl 1 lv none (some (.int .u64 (nn : Int))) f = f tv := fun f => t2 rfl .u64 f
          have t1' : IsV s tv .u8 (left.take nn) := by simpa using t1
          have toff : ∀ i x c d f, tv = .sl i x c d f → i ≠ id := fun i x c d f q => by
            obtain ⟨x', c', d', f', q'⟩ := t3 i x c d f q
            exact (hoff i x' c' d' f' q').1
          have doff : ∀ i x c d f, dv = .sl i x c d f → i ≠ id ∧ lo i := fun i x c d f q => by
            obtain ⟨x', c', d', f', q'⟩ := d3 i x c d f q
            exact hoff i x' c' d' f' q'
          have f1 := Fr1.set id s (.cells [dv, .int .i64 0] false)
          obtain ⟨cv, s2, c1, c2, c3⟩ := clone_u8 (t1'.fr1 f1 toff) (by simp; omega) k
          simp only [w_u64 (show (0 : Int) ≤ left.length by omega) hbig, decide_eq_false hd, bnd, guard_tt, guard_ff, guard_tf, guard_ft, pick_t, pick_f, if_t, if_f, add_i, sub_i, lss_i, leq_i, gtr_i, geq_i, eql_i, neq_i, min_i, max_i, conv_i, len_sl, len_nil, not_b, cells_agg, new_s, fld_p, nil_p, d2', st_f0 h1 d1', t2', c1, if_neg hd, Int.toNat_natCast]
          have r1 : IsRd (s.set id (.cells [dv, .int .i64 0] false)) id (left.drop nn) 0 lo := ⟨dv, by rw [get_set, if_pos rfl], h2, h3, d1'.fr1 f1 fun i x c d f q => (doff i x c d f q).1, doff⟩
          exact ⟨cv, s2, rfl, c2.is, r1.ext c3, f1.trans (c3.fr1 id)⟩
    · have hx' : (er != 0) = true := by simpa using hx
      simp only [hx', bnd, guard_tt, guard_ff, guard_tf, guard_ft, pick_t, pick_f, if_t, if_f, add_i, sub_i, lss_i, leq_i, gtr_i, geq_i, eql_i, neq_i, min_i, max_i, conv_i, len_sl, len_nil, not_b, cells_agg, new_s, fld_p, nil_p, st_f1 h1, hx, not_false_eq_true, if_true]
      exact ⟨_, _, rfl, .inl ⟨rfl, rfl⟩, bad er, Fr1.set id s _⟩
  · have he' : (e == 0) = false := by simpa using he
    rw [he', if_pos he]
    exact ⟨.nilsl, s, rfl, .inl ⟨rfl, rfl⟩, h, Fr1.refl _ _⟩
end
end Go.Proofs.Ytkfdgegmahbkiaa.Sim
namespace Go.Proofs.Ytkfdgegmahbkiaa.Sim
set_option linter.unusedSimpArgs false
set_option linter.unusedVariables false

section
variable {x0 x1 : AV} {s0 : Store} {id : Nat} {l : List Int} {rows : List (List Int)}

theorem numsB_u8 : ∀ (l : List Int), ∀ x ∈ numsB l, 0 ≤ x ∧ x < 256
  | [], x, h => by simp [numsB] at h
  | n :: l, x, h => by
    rw [numsB_cons] at h
    rcases List.mem_append.1 h with h | h
    · exact numB_u8 _ x h
    · exact numsB_u8 l x h
end

end Go.Proofs.Ytkfdgegmahbkiaa.Sim
namespace Go.Proofs.Ytkfdgegmahbkiaa.Sim
set_option linter.unusedSimpArgs false
set_option linter.unusedVariables false

/-- What is read is put as these bytes. -/
theorem numR_one {b : List Int} (hu : ∀ x ∈ b, 0 ≤ x ∧ x < 256) {most : Int} (h : (numR b most).2.2 = 0) : 0 ≤ (numR b most).1 ∧ (numR b most).1 < 18446744073709551616 ∧ b = numB (numR b most).1 ++ (numR b most).2.1 := by
  cases b with
  | nil => simp [numR] at h
  | cons k r =>
    have hk := hu k List.mem_cons_self
    have hur := fun x hx => hu x (List.mem_cons_of_mem k hx)
    unfold numR at h ⊢
    simp only at h ⊢
    split at h
    · simp at h
    split at h
    · simp at h
    split at h
    · simp at h
    split at h
    · simp at h
    rename_i h1 h2 h3 h4
    rw [if_neg h1, if_neg h2, if_neg h3, if_neg h4]
    obtain ⟨kk, rfl⟩ : ∃ kk : Nat, k = kk := ⟨k.toNat, by omega⟩
    simp only [Int.toNat_natCast]
    have hut : ∀ x ∈ r.take kk, 0 ≤ x ∧ x < 256 := fun x hx => hur x (List.mem_of_mem_take hx)
    have hlt : (r.take kk).length = kk := by simp; omega
    have hb := valI_bnd (r.take kk) hut
    rw [hlt] at hb
    have hp : (256 : Int) ^ kk ≤ 256 ^ 8 := by
      have : (256 : Nat) ^ kk ≤ 256 ^ 8 := Nat.pow_le_pow_right (by omega) (by omega)
      rw [← p256 kk, ← p256 8]; exact Int.ofNat_le.2 this
    have h8 : (256 : Int) ^ 8 = 18446744073709551616 := rfl
    refine ⟨hb.1, by omega, ?_⟩
    have hle : leI 8 (valI (r.take kk)) = r.take kk := by
      refine le_valI _ 8 (by omega) hut fun hne q => h3 ⟨?_, ?_⟩
      · have := List.length_pos_iff.2 hne; omega
      · have hpos := List.length_pos_iff.2 hne
        rw [List.getLast_eq_getElem] at q
        simp only [hlt, List.getElem_take] at q
        have e : ((kk : Int) - 1).toNat = kk - 1 := by omega
        rw [e, List.getD_eq_getElem?_getD, List.getElem?_eq_getElem (by omega)]
        simpa using q
    unfold numB
    rw [hle, hlt, List.cons_append, List.take_append_drop]

section
variable {x0 : AV} {s0 : Store} {id mid : Nat} {b : List Int}

end

end Go.Proofs.Ytkfdgegmahbkiaa.Sim
namespace Go.Proofs.Ytkfdgegmahbkiaa.Sim
set_option linter.unusedSimpArgs false
set_option linter.unusedVariables false

section
variable {s t : Store} {a : Nat} {w : AV} {y : Int}
end

section
variable {s : Store} {a c : Nat} {bv x1 : AV} {b : List Int}

end
end Go.Proofs.Ytkfdgegmahbkiaa.Sim
namespace Go.Proofs.Ytkfdgegmahbkiaa.Sim
set_option linter.unusedSimpArgs false
set_option linter.unusedVariables false

section
variable {s t : Store} {a d : Nat} {bv lv : AV} {b left : List Int} {e y : Int}

end

end Go.Proofs.Ytkfdgegmahbkiaa.Sim
namespace Go.Proofs.Ytkfdgegmahbkiaa.Sim
set_option linter.unusedSimpArgs false
set_option linter.unusedVariables false

theorem IsV.back {s0 s : Store} {v : AV} {k : IntKind} {xs : List Int} (h : IsV s v k xs) (e : Ext s0 s) (hlt : ∀ i b c d f, v = .sl i b c d f → i < s0.next) : IsV s0 v k xs := by
  rcases h with h | ⟨l, off, ys, ro, h1, h2, h3, h4⟩
  · exact .inl h
  · have := hlt _ _ _ _ _ h1
    exact .inr ⟨l, off, ys, ro, h1, this, by rw [← e.get l this]; exact h3, h4⟩

section
variable {s0 : Store} {x1 : AV} {id m : Nat}

theorem rdNum_u8 {b : List Int} {e most : Int} (hu : ∀ x ∈ b, 0 ≤ x ∧ x < 256) : ∀ x ∈ (rdNum b e most).2.1, 0 ≤ x ∧ x < 256 := by
  unfold rdNum
  split
  · exact hu
  · split
    · exact hu
    · intro x hx
      unfold numR at hx
      split at hx
      · simp at hx
      · rename_i k r
        split at hx
        · simp at hx
        · split at hx
          · simp at hx
          · split at hx
            · simp at hx
            · split at hx
              · simp at hx
              · exact hu x (List.mem_cons_of_mem _ (List.mem_of_mem_drop hx))
theorem rdNum_len {b : List Int} {e most : Int} : (rdNum b e most).2.1.length ≤ b.length := by
  unfold rdNum
  split
  · exact Nat.le_refl _
  · split
    · exact Nat.le_refl _
    · exact numR_len b most
theorem numR_left_u8 {b : List Int} {most : Int} (hu : ∀ x ∈ b, 0 ≤ x ∧ x < 256) : ∀ x ∈ (numR b most).2.1, 0 ≤ x ∧ x < 256 := by
  intro x hx
  unfold numR at hx
  split at hx
  · simp at hx
  · rename_i k r
    split at hx
    · simp at hx
    · split at hx
      · simp at hx
      · split at hx
        · simp at hx
        · split at hx
          · simp at hx
          · exact hu x (List.mem_cons_of_mem _ (List.mem_of_mem_drop hx))
theorem rdRow_u8 {b : List Int} {e most : Int} (hu : ∀ x ∈ b, 0 ≤ x ∧ x < 256) : ∀ x ∈ (rdRow b e most).2.1, 0 ≤ x ∧ x < 256 := by
  unfold rdRow
  split
  · exact hu
  · split
    · exact hu
    · split
      · exact hu
      · split
        · exact hu
        · exact fun x hx => numR_left_u8 hu x (List.mem_of_mem_drop hx)
theorem rdRow_len {b : List Int} {e most : Int} : (rdRow b e most).2.1.length ≤ b.length := by
  unfold rdRow
  have := numR_len b 18446744073709551615
  split
  · exact Nat.le_refl _
  · split
    · exact Nat.le_refl _
    · split
      · exact Nat.le_refl _
      · split
        · exact Nat.le_refl _
        · simp; omega

end

end Go.Proofs.Ytkfdgegmahbkiaa.Sim
