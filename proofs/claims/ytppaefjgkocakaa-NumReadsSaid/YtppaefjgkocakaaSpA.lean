/- Seat 01: how numbers are put. No condition. -/
import Derived.Test.YtppaefjgkocakaaFuns
import Derived.Test.YtppaefjgkocakaaSimW
namespace Go.Proofs.Ytppaefjgkocakaa.Sim
set_option linter.unusedSimpArgs false
set_option linter.unusedVariables false

/-- The last bytes first, of a number below 256^f. -/
def leI : Nat → Int → List Int
  | 0, _ => []
  | f + 1, n => if n = 0 then [] else (n % 256) :: leI f (n / 256)
def numB (n : Int) : List Int := ((leI 8 n).length : Int) :: leI 8 n
theorem leI_len : ∀ (f : Nat) (n : Int), (leI f n).length ≤ f
  | 0, _ => Nat.le_refl _
  | f + 1, n => by
    unfold leI
    split
    · simp
    · have := leI_len f (n / 256); simp; omega
theorem leI_u8 : ∀ (f : Nat) (n : Int), ∀ x ∈ leI f n, 0 ≤ x ∧ x < 256
  | 0, _, x, h => by simp [leI] at h
  | f + 1, n, x, h => by
    unfold leI at h
    split at h
    · simp at h
    · rcases List.mem_cons.1 h with rfl | h
      · omega
      · exact leI_u8 f _ x h
theorem numB_u8 (n : Int) : ∀ x ∈ numB n, 0 ≤ x ∧ x < 256 := fun x h => by
  rcases List.mem_cons.1 h with rfl | h
  · have := leI_len 8 n; omega
  · exact leI_u8 8 n x h
theorem numB_len (n : Int) : (numB n).length ≤ 9 := by have := leI_len 8 n; simp [numB]; omega
theorem leI_succ (f : Nat) (n : Int) : leI (f + 1) n = if n = 0 then [] else (n % 256) :: leI f (n / 256) := rfl
theorem leI_stay : ∀ (f : Nat) (n : Int), 0 ≤ n → n < 256 ^ f → leI (f + 1) n = leI f n
  | 0, n, h0, h1 => by
    have : n = 0 := by simp at h1; omega
    subst this; rfl
  | f + 1, n, h0, h1 => by
    rw [leI_succ (f + 1) n, leI_succ f n]
    split
    · rfl
    · rw [leI_stay f (n / 256) (by omega) (by rw [Int.pow_succ] at h1; omega)]
theorem leI_8 {n : Int} (h0 : 0 < n) (h1 : n < 18446744073709551616) : leI 8 n = (n % 256) :: leI 8 (n / 256) := by
  have e : (256 : Int) ^ 7 = 72057594037927936 := rfl
  rw [leI_succ 7, if_neg (by omega), leI_stay 7 (n / 256) (by omega) (by rw [e]; omega)]
/-- How many bytes a number has. -/
def wid (n : Int) : Nat := (leI 8 n).length
theorem wid_step {n : Int} (h0 : 0 < n) (h1 : n < 18446744073709551616) : wid n = wid (n / 256) + 1 := by
  unfold wid
  rw [leI_8 h0 h1, List.length_cons]
theorem wid_0 : wid 0 = 0 := rfl
theorem wid_1 {n : Int} (h0 : 0 < n) (h1 : n < 256) : wid n = 1 := by
  rw [wid_step h0 (by omega), show n / 256 = 0 by omega, wid_0]
theorem wid_2 {n : Int} (h0 : 256 ≤ n) (h1 : n < 18446744073709551616) : wid n = wid (n / 256) + 1 := wid_step (by omega) h1
theorem wid_4 {n : Int} (h0 : 65536 ≤ n) (h1 : n < 18446744073709551616) : wid n = wid (n / 65536) + 2 := by
  rw [wid_2 (by omega) h1, wid_2 (n := n / 256) (by omega) (by omega), show n / 256 / 256 = n / 65536 by omega]
theorem wid_8 {n : Int} (h0 : 4294967296 ≤ n) (h1 : n < 18446744073709551616) : wid n = wid (n / 4294967296) + 4 := by
  rw [wid_4 (by omega) h1, wid_4 (n := n / 65536) (by omega) (by omega), show n / 65536 / 65536 = n / 4294967296 by omega]

theorem shr_u (b d : Int) (hd : (2 : Int) ^ b.toNat = d) (hb : 0 ≤ b) (hb2 : b < 64) {a : Int} (ha : 0 ≤ a) {kk : IntKind} {α : Type} (f : AV → Option α) : aShift .shr (.int .u64 a) (.int kk b) f = f (.int .u64 (a / d)) := by
  have h : min b.toNat IntKind.u64.bits = b.toNat := by simp [IntKind.bits]; omega
  simp only [aShift, if_neg (show ¬ b < 0 by omega), h]
  rw [hd, Int.fdiv_eq_ediv_of_nonneg _ (by rw [← hd]; exact Int.pow_nonneg (by omega))]
theorem quo_i {k : IntKind} {a b : Int} (ha : 0 ≤ a) (hb : b ≠ 0) {α : Type} (f : AV → Option α) : aBin .quo (.int k a) (.int k b) f = f (.int k (k.wrap (a / b))) := by
  simp only [aBin, intBin, if_true, if_neg hb, Int.tdiv_eq_ediv_of_nonneg ha]
theorem rem_i {k : IntKind} {a b : Int} (ha : 0 ≤ a) (hb : b ≠ 0) {α : Type} (f : AV → Option α) : aBin .rem (.int k a) (.int k b) f = f (.int k (a % b)) := by
  simp only [aBin, intBin, if_true, if_neg hb, Int.tmod_eq_emod_of_nonneg ha]
theorem byte_of {a : Int} : IntKind.u8.wrap a = a % 256 := by simp [IntKind.wrap, IntKind.bits, IntKind.signed]

def tab8 : ByteArray := ⟨#[0, 1, 2, 2, 3, 3, 3, 3, 4, 4, 4, 4, 4, 4, 4, 4, 5, 5, 5, 5, 5, 5, 5, 5, 5, 5, 5, 5, 5, 5, 5, 5, 6, 6, 6, 6, 6, 6, 6, 6, 6, 6, 6, 6, 6, 6, 6, 6, 6, 6, 6, 6, 6, 6, 6, 6, 6, 6, 6, 6, 6, 6, 6, 6, 7, 7, 7, 7, 7, 7, 7, 7, 7, 7, 7, 7, 7, 7, 7, 7, 7, 7, 7, 7, 7, 7, 7, 7, 7, 7, 7, 7, 7, 7, 7, 7, 7, 7, 7, 7, 7, 7, 7, 7, 7, 7, 7, 7, 7, 7, 7, 7, 7, 7, 7, 7, 7, 7, 7, 7, 7, 7, 7, 7, 7, 7, 7, 7, 8, 8, 8, 8, 8, 8, 8, 8, 8, 8, 8, 8, 8, 8, 8, 8, 8, 8, 8, 8, 8, 8, 8, 8, 8, 8, 8, 8, 8, 8, 8, 8, 8, 8, 8, 8, 8, 8, 8, 8, 8, 8, 8, 8, 8, 8, 8, 8, 8, 8, 8, 8, 8, 8, 8, 8, 8, 8, 8, 8, 8, 8, 8, 8, 8, 8, 8, 8, 8, 8, 8, 8, 8, 8, 8, 8, 8, 8, 8, 8, 8, 8, 8, 8, 8, 8, 8, 8, 8, 8, 8, 8, 8, 8, 8, 8, 8, 8, 8, 8, 8, 8, 8, 8, 8, 8, 8, 8, 8, 8, 8, 8, 8, 8, 8, 8, 8, 8, 8, 8, 8, 8, 8, 8, 8, 8, 8, 8]⟩
theorem tab8_size : tab8.size = 256 := by decide +kernel
theorem tab8_at : ∀ i : Fin 256, ((tab8[i.val]'(by rw [tab8_size]; exact i.isLt)).toNat + 7) / 8 = (if i.val = 0 then 0 else 1) ∧ (tab8[i.val]'(by rw [tab8_size]; exact i.isLt)).toNat ≤ 8 := by decide +kernel

theorem len_p0 (k : Nat) (x0 x2 : AV) (s : Store) : bits_Len64.p0 k x0 x2 s = aConvInt .u8 x0 fun v1 => aIndexStr (AV.str tab8) v1 fun v2 => aConvInt .i64 v2 fun v3 => aBin .add x2 v3 fun v4 => some (v4, s) := by kernel_rfl
theorem len64_0 {y c : Int} (h0 : 0 ≤ y) (h1 : y < 256) (hc : 0 ≤ c) (hc2 : c ≤ 56) (k : Nat) (s : Store) : ∃ t : Int, bits_Len64.p0 k (.int .u64 y) (.int .i64 c) s = some (.int .i64 (c + t), s) ∧ 0 ≤ t ∧ t ≤ 8 ∧ (t + 7) / 8 = wid y := by
  have hlt : y.toNat < 256 := by omega
  obtain ⟨t1, t2⟩ := tab8_at ⟨y.toNat, hlt⟩
  have hw : (wid y : Int) = (if y.toNat = 0 then 0 else 1 : Nat) := by
    by_cases hz : y = 0
    · subst hz; rfl
    · rw [wid_1 (by omega) h1, if_neg (by omega)]
  simp only at t1 t2
  refine ⟨((tab8[y.toNat]'(by rw [tab8_size]; exact hlt)).toNat : Int), ?_, by omega, by omega, by rw [hw]; omega⟩
  rw [len_p0, conv_i, byte_of, show y % 256 = y by omega]
  simp only [aIndexStr]
  rw [if_pos h0, dif_pos (by rw [tab8_size]; exact hlt)]
  have hw8 : IntKind.i64.wrap ((tab8[y.toNat]'(by rw [tab8_size]; exact hlt)).toNat : Int) = ((tab8[y.toNat]'(by rw [tab8_size]; exact hlt)).toNat : Int) := w_i64 (by omega) (by omega)
  simp only [conv_i, add_i, hw8]
  rw [w_i64 (by omega) (by omega)]

theorem len64 {n : Int} (h0 : 0 ≤ n) (h1 : n < 18446744073709551616) (k : Nat) (s : Store) : ∃ t : Int, rn (k + 1) 29 [.int .u64 n] s = some (.int .i64 t, s) ∧ 0 ≤ t ∧ t ≤ 64 ∧ (t + 7) / 8 = wid n := by
  rw [bits_Len64.eq]
  unfold bits_Len64.f bits_Len64.p4
  have s1 : ∀ {y c : Int}, 0 ≤ y → y < 65536 → 0 ≤ c → c ≤ 48 → ∃ t : Int, bits_Len64.p1 k (.int .u64 y) (.int .i64 c) s = some (.int .i64 (c + t), s) ∧ 0 ≤ t ∧ t ≤ 16 ∧ (t + 7) / 8 = wid y := by
    intro y c a1 a2 a3 a4
    unfold bits_Len64.p1
    rw [geq_i]
    by_cases hc : y ≥ 256
    · rw [decide_eq_true hc, if_t, shr_u 8 256 rfl (by omega) (by omega) a1, add_i, w_i64 (by omega) (by omega)]
      obtain ⟨t, b1, b2, b3, b4⟩ := len64_0 (y := y / 256) (c := c + 8) (by omega) (by omega) (by omega) (by omega) k s
      refine ⟨8 + t, by rw [b1]; congr 3; omega, by omega, by omega, ?_⟩
      rw [wid_2 (n := y) (by omega) (by omega)]
      push_cast; omega
    · rw [decide_eq_false hc, if_f]
      obtain ⟨t, b1, b2, b3, b4⟩ := len64_0 (y := y) (c := c) a1 (by omega) a3 (by omega) k s
      exact ⟨t, b1, b2, by omega, b4⟩
  have s2 : ∀ {y c : Int}, 0 ≤ y → y < 4294967296 → 0 ≤ c → c ≤ 32 → ∃ t : Int, bits_Len64.p2 k (.int .u64 y) (.int .i64 c) s = some (.int .i64 (c + t), s) ∧ 0 ≤ t ∧ t ≤ 32 ∧ (t + 7) / 8 = wid y := by
    intro y c a1 a2 a3 a4
    unfold bits_Len64.p2
    rw [geq_i]
    by_cases hc : y ≥ 65536
    · rw [decide_eq_true hc, if_t, shr_u 16 65536 rfl (by omega) (by omega) a1, add_i, w_i64 (by omega) (by omega)]
      obtain ⟨t, b1, b2, b3, b4⟩ := s1 (y := y / 65536) (c := c + 16) (by omega) (by omega) (by omega) (by omega)
      refine ⟨16 + t, by rw [b1]; congr 3; omega, by omega, by omega, ?_⟩
      rw [wid_4 (n := y) (by omega) (by omega)]
      push_cast; omega
    · rw [decide_eq_false hc, if_f]
      obtain ⟨t, b1, b2, b3, b4⟩ := s1 (y := y) (c := c) a1 (by omega) a3 (by omega)
      exact ⟨t, b1, b2, by omega, b4⟩
  unfold bits_Len64.p3
  rw [geq_i]
  by_cases hc : n ≥ 4294967296
  · rw [decide_eq_true hc, if_t, shr_u 32 4294967296 rfl (by omega) (by omega) h0]
    obtain ⟨t, b1, b2, b3, b4⟩ := s2 (y := n / 4294967296) (c := 32) (by omega) (by omega) (by omega) (by omega)
    refine ⟨32 + t, b1, by omega, by omega, ?_⟩
    rw [wid_8 (n := n) (by omega) h1]
    push_cast; omega
  · rw [decide_eq_false hc, if_f]
    obtain ⟨t, b1, b2, b3, b4⟩ := s2 (y := n) (c := 0) h0 (by omega) (by omega) (by omega)
    exact ⟨t, by rw [b1, Int.zero_add], b2, by omega, b4⟩

theorem width_run {n : Int} (h0 : 0 ≤ n) (h1 : n < 18446744073709551616) (k : Nat) (s : Store) : rn (k + 2) 28 [.int .u64 n] s = some (.int .i64 (wid n), s) := by
  rw [num_width.eq]
  unfold num_width.f num_width.p0
  obtain ⟨t, b1, b2, b3, b4⟩ := len64 h0 h1 k s
  rw [b1, bnd, add_i, w_i64 (by omega) (by omega), quo_i (by omega) (by omega), w_i64 (by omega) (by omega), b4]

theorem put_loop (k : Nat) {lo : Nat} {kk : Int} (hkk : kk ≤ 8) : ∀ (n i : Nat) (s : Store) (v : AV) (xs : List Int) (m : Int), OwnV s v .u8 xs lo → lo ≤ s.next → 0 ≤ m → m < 18446744073709551616 → xs.length + n ≤ 1000000 → (i : Int) + wid m = kk → wid m < n →
    ∃ v' s', num_put.l0 k n v (.int .u64 m) (.int .i64 kk) (.int .i64 i) s = some (v', s') ∧ OwnV s' v' .u8 (xs ++ leI 8 m) lo ∧ ExtLo lo s s'
  | 0, i, s, v, xs, m, _, _, _, _, _, _, hn => by omega
  | n + 1, i, s, v, xs, m, ho, hlo, h0, h1, hb, hi, hn => by
    have hs : num_put.l0 k (n + 1) = fun x0 x1 x13 x14 s => num_put.p4 k (num_put.l0 k n) x0 x1 x13 x14 s := rfl
    rw [hs]
    clear hs
    simp only
    unfold num_put.p4 num_put.p3
    rw [lss_i]
    by_cases hm : m = 0
    · subst hm
      rw [wid_0] at hi
      rw [decide_eq_false (by omega), if_f]
      exact ⟨v, s, rfl, by simpa [leI] using ho, ExtLo.refl _ _⟩
    · have hw := wid_step (n := m) (by omega) h1
      rw [decide_eq_true (by omega), if_t]
      unfold num_put.p2 num_put.p1
      rw [conv_i, byte_of, build_1]
      obtain ⟨v1, s1, k1, k2, k3, _⟩ := app1V (bytes := 1) ho hlo (m % 256) (by omega) (by omega)
      rw [k1, shr_u 8 256 rfl (by omega) (by omega) h0, add_i, w_i64 (by omega) (by omega)]
      have e8 := leI_8 (n := m) (by omega) h1
      obtain ⟨v', s', j1, j2, j3⟩ := put_loop k hkk n (i + 1) s1 v1 (xs ++ [m % 256]) (m / 256) k2 (Nat.le_trans hlo k3.next) (by omega) (by omega) (by simp; omega) (by push_cast; omega) (by omega)
      refine ⟨v', s', j1, ?_, k3.trans j3⟩
      rw [e8, List.append_cons]; exact j2

theorem put_run {lo : Nat} {s : Store} {v : AV} {xs : List Int} {n : Int} (ho : OwnV s v .u8 xs lo) (hlo : lo ≤ s.next) (h0 : 0 ≤ n) (h1 : n < 18446744073709551616) (hb : xs.length ≤ 100000) (k : Nat) (hk : 100 ≤ k) (hk2 : k ≤ 100000) :
    ∃ v' s', rn (k + 3) 27 [v, .int .u64 n] s = some (v', s') ∧ OwnV s' v' .u8 (xs ++ numB n) lo ∧ ExtLo lo s s' := by
  rw [num_put.eq]
  unfold num_put.f num_put.p8 num_put.p7
  rw [width_run h0 h1, bnd]
  unfold num_put.p6
  have hw := leI_len 8 n
  have hwe : wid n = (leI 8 n).length := rfl
  simp only
  rw [conv_i, byte_of, build_1]
  obtain ⟨v1, s1, k1, k2, k3, _⟩ := app1V (bytes := 1) ho hlo ((wid n : Int) % 256) (by omega) (by omega)
  rw [k1]
  unfold num_put.p5
  obtain ⟨v', s', j1, j2, j3⟩ := put_loop (k + 2) (kk := wid n) (by omega) (k + 2) 0 s1 v1 (xs ++ [(wid n : Int) % 256]) n k2 (Nat.le_trans hlo k3.next) h0 h1 (by simp; omega) (by omega) (by omega)
  rw [Int.natCast_zero] at j1
  refine ⟨v', s', j1, ?_, k3.trans j3⟩
  have e : xs ++ numB n = xs ++ [(wid n : Int) % 256] ++ leI 8 n := by
    unfold numB
    rw [show (wid n : Int) % 256 = ((leI 8 n).length : Int) by omega]
    simp
  rw [e]; exact j2

theorem clone_u8 {s : Store} {v : AV} {xs : List Int} (h : IsV s v .u8 xs) (hb : xs.length ≤ 1000000) (k : Nat) : ∃ v' s', rn (k + 1) 24 [v] s = some (v', s') ∧ OwnV s' v' .u8 xs s.next ∧ Ext s s' := by
  rw [slices_Clone_byte_byte.eq]
  unfold slices_Clone_byte_byte.f slices_Clone_byte_byte.p0
  obtain ⟨s1, k1, k2, k3, k4⟩ := copyV (bytes := 1) h (by omega) (by omega)
  rcases h with ⟨rfl, rfl⟩ | ⟨l, off, ys, ro, rfl, h2, h3⟩
  · exact ⟨.nilsl, s, rfl, .inl ⟨rfl, rfl⟩, Ext.refl _⟩
  · simp only [aEq, bnd, guard_tt, guard_ff, guard_tf, guard_ft, pick_t, pick_f, if_t, if_f, add_i, sub_i, lss_i, leq_i, gtr_i, geq_i, eql_i, neq_i, min_i, max_i, conv_i, len_sl, len_nil, not_b, cells_agg, new_s, fld_p, nil_p]
    rw [build_0, k1]
    exact ⟨_, s1, rfl, .inr ⟨s.next, rfl, Nat.le_refl _, k3, k2⟩, k4⟩

/-- Numbers, one behind the other. -/
def numsB (l : List Int) : List Int := (l.map numB).flatten
theorem numsB_cons (n : Int) (l : List Int) : numsB (n :: l) = numB n ++ numsB l := rfl
theorem numsB_len : ∀ l : List Int, (numsB l).length ≤ l.length * 9
  | [] => by simp [numsB]
  | n :: l => by
    have := numsB_len l
    have := numB_len n
    simp only [numsB, List.map_cons, List.flatten_cons, List.length_append, List.length_cons] at *
    omega

theorem puts_loop (k : Nat) (hk : 200 ≤ k) (hk2 : k ≤ 100000) {lo : Nat} {lv : AV} {l : List Int} (hl : l.length ≤ 10000) (hu : ∀ x ∈ l, 0 ≤ x ∧ x < 18446744073709551616) (hlo' : ∀ a b c d f, lv = .sl a b c d f → a < lo) : ∀ (n i : Nat) (s : Store) (v : AV) (xs : List Int), IsV s lv .u64 l → OwnV s v .u8 xs lo → lo ≤ s.next → xs.length + (l.length - i) * 9 ≤ 90000 → i ≤ l.length → l.length - i < n →
    ∃ v' s', num_Put.l0 (k + 3) n v lv (.int .i64 l.length) (.int .i64 i) s = some (v', s') ∧ OwnV s' v' .u8 (xs ++ numsB (l.drop i)) lo ∧ ExtLo lo s s'
  | 0, i, _, _, _, _, _, _, _, hi, hn => by omega
  | n + 1, i, s, v, xs, hv, ho, hlo, hb, hi, hn => by
    have hs : num_Put.l0 (k + 3) (n + 1) = fun x5 x10 x11 x12 s => num_Put.p4 (k + 3) (num_Put.l0 (k + 3) n) x5 x10 x11 x12 s := rfl
    rw [hs]
    clear hs
    simp only
    unfold num_Put.p4 num_Put.p3
    rw [lss_i]
    by_cases h : i < l.length
    · have hz : (i : Int) < (l.length : Int) := by omega
      rw [decide_eq_true hz, if_t]
      unfold num_Put.p2 num_Put.p1
      have hw1 : IntKind.i64.wrap ((i : Int) + 1) = ((i + 1 : Nat) : Int) := by rw [w_i64 (by omega) (by omega)]; omega
      obtain ⟨p, p1, p2⟩ := atV hv (show (0 : Int) ≤ i by omega) hz
      have hux := hu _ (List.getElem_mem h)
      have eg : l.getD (i : Int).toNat 0 = l[i] := by simp [h]
      rw [p1, p2, eg]
      obtain ⟨v1, s1, k1, k2, k3⟩ := put_run ho hlo hux.1 hux.2 (by omega) k (by omega) hk2
      have hnl := numB_len l[i]
      rw [k1, bnd, add_i, hw1]
      obtain ⟨v', s', j1, j2, j3⟩ := puts_loop k hk hk2 hl hu hlo' n (i + 1) s1 v1 (xs ++ numB l[i]) (k3.isV hv hlo') k2 (Nat.le_trans hlo k3.next) (by rw [List.length_append]; omega) (by omega) (by omega)
      refine ⟨v', s', j1, ?_, k3.trans j3⟩
      rw [List.drop_eq_getElem_cons h]
      rw [numsB_cons, ← List.append_assoc]; exact j2
    · have hz : ¬ (i : Int) < (l.length : Int) := by omega
      rw [decide_eq_false hz, if_f, List.drop_eq_nil_of_le (by omega)]
      exact ⟨v, s, rfl, by simpa [numsB] using ho, ExtLo.refl _ _⟩

theorem puts_run {s : Store} {bv lv : AV} {b l : List Int} (hb : IsV s bv .u8 b) (hv : IsV s lv .u64 l) (hbl : b.length ≤ 80000) (hl : l.length ≤ 1000) (hu : ∀ x ∈ l, 0 ≤ x ∧ x < 18446744073709551616) (k : Nat) (hk : 1100 ≤ k) (hk2 : k ≤ 100000) :
    ∃ v' s', rn (k + 4) 14 [bv, lv] s = some (v', s') ∧ OwnV s' v' .u8 (b ++ numsB l) s.next ∧ Ext s s' := by
  rw [num_Put.eq]
  unfold num_Put.f num_Put.p7 num_Put.p6
  obtain ⟨v1, s1, k1, k2, k3⟩ := clone_u8 hb (by omega) (k + 2)
  have k1' : rn (k + 3) 24 [bv] s = some (v1, s1) := k1
  rw [k1', bnd]
  unfold num_Put.p5
  simp only
  rw [lenV hv]
  obtain ⟨v', s', j1, j2, j3⟩ := puts_loop k (by omega) hk2 (lo := s.next) (by omega) hu hv.lt (k + 3) 0 s1 v1 b (hv.ext k3) k2 k3.next (by omega) (by omega) (by omega)
  rw [Int.natCast_zero] at j1
  rw [List.drop_zero] at j2
  exact ⟨v', s', j1, j2, ⟨Nat.le_trans k3.next j3.next, fun j hj => (j3.get j hj).trans (k3.get j hj)⟩⟩
end Go.Proofs.Ytppaefjgkocakaa.Sim
