/- Seat 11: how many bits a word has, and which is the lowest: plain numbers. No condition. -/
import Derived.Test.YtffememmkkopmaaDoorSpA
import Derived.Lib.TrailingZeros
namespace Go.Proofs.YtffememmkkopmaaDoor.Sim
set_option linter.unusedSimpArgs false
set_option linter.unusedVariables false

/-! ### a byte of a number, apart -/
theorem land_split (q r M m : Nat) (hr : r < 256) (hm : m < 256) : (256 * q + r) &&& (256 * M + m) = 256 * (q &&& M) + (r &&& m) := by
  have hrm : r &&& m < 2 ^ 8 := Nat.and_lt_two_pow r (by omega)
  apply Nat.eq_of_testBit_eq
  intro i
  have h := fun (a b : Nat) (h : b < 2 ^ 8) => Nat.testBit_two_pow_mul_add a h i
  rw [Nat.testBit_and, show (256 : Nat) = 2 ^ 8 from rfl, h q r hr, h M m hm, h (q &&& M) _ hrm]
  by_cases hi : i < 8
  · simp [hi]
  · simp [hi]
def m0 : Nat → Nat
  | 0 => 0
  | n + 1 => 256 * m0 n + 85
def m1 : Nat → Nat
  | 0 => 0
  | n + 1 => 256 * m1 n + 51
def m2 : Nat → Nat
  | 0 => 0
  | n + 1 => 256 * m2 n + 15
def wA (n x : Nat) : Nat := (x / 2 &&& m0 n) + (x &&& m0 n)
def wB (n x : Nat) : Nat := (wA n x / 4 &&& m1 n) + (wA n x &&& m1 n)
def wC (n x : Nat) : Nat := (wB n x / 16 + wB n x) &&& m2 n
def qA (r : Nat) : Nat := (r / 2 &&& 85) + (r &&& 85)
def qB (r : Nat) : Nat := (qA r / 4 &&& 51) + (qA r &&& 51)
theorem qA_lt : ∀ r, r < 256 → qA r < 256 := by decide +kernel
theorem qB_lt : ∀ r, r < 256 → qB r ≤ 68 ∧ qB r % 16 ≤ 4 := by decide +kernel
theorem k0 : ∀ r, r < 256 → r &&& 85 = (r % 128) &&& 85 := by decide +kernel
theorem k1 : ∀ r, r < 256 → r &&& 51 = (r % 64) &&& 51 := by decide +kernel
theorem wA_step (n x : Nat) : wA (n + 1) x = 256 * wA n (x / 256) + qA (x % 256) := by
  have hx : x = 256 * (x / 256) + x % 256 := by omega
  have h2 : x / 2 = 256 * (x / 256 / 2) + (128 * (x / 256 % 2) + x % 256 / 2) := by omega
  have hk := k0 (128 * (x / 256 % 2) + x % 256 / 2) (by omega)
  rw [show (128 * (x / 256 % 2) + x % 256 / 2) % 128 = x % 256 / 2 by omega] at hk
  have em : m0 (n + 1) = 256 * m0 n + 85 := rfl
  unfold wA qA
  rw [em, h2, land_split _ _ _ _ (by omega) (by omega), hk]
  have e : x &&& (256 * m0 n + 85) = 256 * (x / 256 &&& m0 n) + (x % 256 &&& 85) := by
    conv => lhs; rw [hx]
    exact land_split _ _ _ _ (by omega) (by omega)
  rw [e]
  omega
theorem wB_step (n x : Nat) : wB (n + 1) x = 256 * wB n (x / 256) + qB (x % 256) := by
  have hr := qA_lt (x % 256) (by omega)
  have em : m1 (n + 1) = 256 * m1 n + 51 := rfl
  unfold wB qB
  rw [em, wA_step]
  generalize wA n (x / 256) = q, qA (x % 256) = r at *
  have h2 : (256 * q + r) / 4 = 256 * (q / 4) + (64 * (q % 4) + r / 4) := by omega
  have hk := k1 (64 * (q % 4) + r / 4) (by omega)
  rw [show (64 * (q % 4) + r / 4) % 64 = r / 4 by omega] at hk
  rw [h2, land_split _ _ _ _ (by omega) (by omega), hk, land_split _ _ _ _ (by omega) (by omega)]
  omega
theorem wB_low (n x : Nat) : wB n x % 16 ≤ 4 := by
  cases n with
  | zero => simp [wB, m1]
  | succ n =>
    have := (qB_lt (x % 256) (by omega)).2
    rw [wB_step]; omega
theorem wC_step (n x : Nat) : wC (n + 1) x = 256 * wC n (x / 256) + (qB (x % 256) / 16 + qB (x % 256)) % 16 := by
  have hr := qB_lt (x % 256) (by omega)
  have hq := wB_low n (x / 256)
  have em : m2 (n + 1) = 256 * m2 n + 15 := rfl
  unfold wC
  rw [em, wB_step]
  generalize wB n (x / 256) = q, qB (x % 256) = r at *
  have h2 : (256 * q + r) / 16 + (256 * q + r) = 256 * (q / 16 + q) + (16 * (q % 16) + r / 16 + r) := by omega
  have hk := Nat.and_two_pow_sub_one_eq_mod (16 * (q % 16) + r / 16 + r) 4
  rw [show 2 ^ 4 - 1 = 15 from rfl] at hk
  rw [h2, land_split _ _ _ _ (by omega) (by omega), hk]
  omega

/-- How many of its first bits a number has. -/
def cnt (n x : Nat) : Nat := (List.range n).countP fun i => x.testBit i
theorem cnt_add (n x : Nat) : cnt (8 + n) x = cnt 8 (x % 256) + cnt n (x / 256) := by
  unfold cnt
  rw [List.range_add, List.countP_append, List.countP_map]
  congr 1
  · apply List.countP_congr
    intro i hi
    rw [show (256 : Nat) = 2 ^ 8 from rfl, Nat.testBit_mod_two_pow]
    simp [List.mem_range.1 hi]
  · apply List.countP_congr
    intro i hi
    rw [show (256 : Nat) = 2 ^ 8 from rfl, Nat.testBit_div_two_pow]
    simp [Nat.add_comm]
theorem cnt_8 : ∀ r, r < 256 → cnt 8 r = (qB r / 16 + qB r) % 16 := by decide +kernel
theorem cnt_8_le (r : Nat) : cnt 8 r ≤ 8 := by
  unfold cnt
  have := List.countP_le_length (p := fun i => r.testBit i) (l := List.range 8)
  simpa using this
theorem wC_eq (n x : Nat) : wC (n + 1) x = 256 * wC n (x / 256) + cnt 8 (x % 256) := by rw [wC_step, cnt_8 _ (by omega)]

theorem dig {q r D : Nat} (h : r < D) : (D * q + r) / D = q := by
  rw [Nat.mul_add_div (by omega), Nat.div_eq_of_lt h, Nat.add_zero]
theorem f1 {p0 p1 p2 p3 : Nat} (h0 : p0 ≤ 8) (h1 : p1 ≤ 8) (h2 : p2 ≤ 8) (h3 : p3 ≤ 8) : 256 * (p1 + p2) + (p0 + p1) < 65536 := by omega
theorem f2 {p0 p1 p2 p3 p4 p5 p6 : Nat} (h0 : p0 ≤ 8) (h1 : p1 ≤ 8) (h2 : p2 ≤ 8) (h3 : p3 ≤ 8) (h4 : p4 ≤ 8) (h5 : p5 ≤ 8) (h6 : p6 ≤ 8) : 16777216 * (p3 + p4 + p5 + p6) + 65536 * (p2 + p3 + p4 + p5) + 256 * (p1 + p2 + p3 + p4) + (p0 + p1 + p2 + p3) < 4294967296 := by omega
theorem f3 {p0 p1 p2 p3 p4 p5 p6 p7 : Nat} (h0 : p0 ≤ 8) (h1 : p1 ≤ 8) (h2 : p2 ≤ 8) (h3 : p3 ≤ 8) (h4 : p4 ≤ 8) (h5 : p5 ≤ 8) (h6 : p6 ≤ 8) (h7 : p7 ≤ 8) : p0 + p1 + p2 + p3 + p4 + p5 + p6 + p7 < 128 := by omega
theorem fold_sum (p0 p1 p2 p3 p4 p5 p6 p7 : Nat) (h0 : p0 ≤ 8) (h1 : p1 ≤ 8) (h2 : p2 ≤ 8) (h3 : p3 ≤ 8) (h4 : p4 ≤ 8) (h5 : p5 ≤ 8) (h6 : p6 ≤ 8) (h7 : p7 ≤ 8) (c d e f : Nat)
    (hc : c = 256 * (256 * (256 * (256 * (256 * (256 * (256 * p7 + p6) + p5) + p4) + p3) + p2) + p1) + p0) (hd : d = c + c / 256) (he : e = d + d / 65536) (hf : f = e + e / 4294967296) :
    f % 128 = p0 + p1 + p2 + p3 + p4 + p5 + p6 + p7 ∧ f < 2305843009213693952 := by
  have d1 : c / 256 = 256 * (256 * (256 * (256 * (256 * (256 * p7 + p6) + p5) + p4) + p3) + p2) + p1 := by rw [hc]; exact dig (Nat.lt_of_le_of_lt h0 (by decide))
  have hd2 : d = 65536 * (256 * (256 * (256 * (256 * (256 * p7 + (p6 + p7)) + (p5 + p6)) + (p4 + p5)) + (p3 + p4)) + (p2 + p3)) + (256 * (p1 + p2) + (p0 + p1)) := by rw [hd, d1, hc]; clear d1 hc hd he hf h0 h1 h2 h3 h4 h5 h6 h7; omega
  have d2 : d / 65536 = 256 * (256 * (256 * (256 * (256 * p7 + (p6 + p7)) + (p5 + p6)) + (p4 + p5)) + (p3 + p4)) + (p2 + p3) := by rw [hd2]; exact dig (f1 h0 h1 h2 h3)
  have he2 : e = 4294967296 * (256 * (256 * (256 * p7 + (p6 + p7)) + (p5 + p6 + p7)) + (p4 + p5 + p6 + p7)) + (16777216 * (p3 + p4 + p5 + p6) + 65536 * (p2 + p3 + p4 + p5) + 256 * (p1 + p2 + p3 + p4) + (p0 + p1 + p2 + p3)) := by rw [he, d2, hd2]; clear d1 hc hd he hf h0 h1 h2 h3 h4 h5 h6 h7 d2 hd2; omega
  have d3 : e / 4294967296 = 256 * (256 * (256 * p7 + (p6 + p7)) + (p5 + p6 + p7)) + (p4 + p5 + p6 + p7) := by rw [he2]; exact dig (f2 h0 h1 h2 h3 h4 h5 h6)
  have hf2 : f = 128 * (33554432 * (256 * (256 * (256 * p7 + (p6 + p7)) + (p5 + p6 + p7)) + (p4 + p5 + p6 + p7)) + 131072 * (p3 + p4 + p5 + p6 + p7) + 512 * (p2 + p3 + p4 + p5 + p6 + p7) + 2 * (p1 + p2 + p3 + p4 + p5 + p6 + p7)) + (p0 + p1 + p2 + p3 + p4 + p5 + p6 + p7) := by rw [hf, d3, he2]; clear d1 hc hd he hf h0 h1 h2 h3 h4 h5 h6 h7 d2 hd2 d3 he2; omega
  rw [hf2]
  clear d1 hc hd he hf d2 hd2 d3 he2 hf2
  refine ⟨?_, ?_⟩
  · rw [Nat.mul_add_mod, Nat.mod_eq_of_lt (f3 h0 h1 h2 h3 h4 h5 h6 h7)]
  · omega

/-- The chain of the library's OnesCount64. -/
def ones (x : Nat) : Nat :=
  let c := wC 8 x
  let d := c + c / 256
  let e := d + d / 65536
  e + e / 4294967296
theorem ones_eq (x : Nat) (hx : x < 18446744073709551616) : ones x % 128 = cnt 64 x ∧ ones x < 2305843009213693952 := by
  have h := fold_sum _ _ _ _ _ _ _ _ (cnt_8_le (x % 256)) (cnt_8_le (x / 256 % 256)) (cnt_8_le (x / 256 / 256 % 256)) (cnt_8_le (x / 256 / 256 / 256 % 256)) (cnt_8_le (x / 256 / 256 / 256 / 256 % 256)) (cnt_8_le (x / 256 / 256 / 256 / 256 / 256 % 256)) (cnt_8_le (x / 256 / 256 / 256 / 256 / 256 / 256 % 256)) (cnt_8_le (x / 256 / 256 / 256 / 256 / 256 / 256 / 256 % 256)) (wC 8 x) _ _ _ (by
      rw [wC_eq, wC_eq, wC_eq, wC_eq, wC_eq, wC_eq, wC_eq, wC_eq]
      simp [wC, m2]) rfl rfl rfl
  refine ⟨?_, h.2⟩
  refine h.1.trans ?_
  rw [show (64 : Nat) = 8 + (8 + (8 + (8 + (8 + (8 + (8 + (8 + 0))))))) from rfl]
  rw [cnt_add, cnt_add, cnt_add, cnt_add, cnt_add, cnt_add, cnt_add, cnt_add]
  simp only [cnt, List.range_zero, List.countP_nil]
  omega

/-! ### its run -/
theorem and_u {a b : Nat} (ha : a < 18446744073709551616) (hb : b < 18446744073709551616) {α : Type} (f : AV → Option α) : aBin .and (.int .u64 (a : Int)) (.int .u64 (b : Int)) f = f (.int .u64 ((a &&& b : Nat) : Int)) := by
  have e1 : (BitVec.ofInt 64 (a : Int)).toNat = a := by rw [BitVec.ofInt_natCast, BitVec.toNat_ofNat]; exact Nat.mod_eq_of_lt (by omega)
  have e2 : (BitVec.ofInt 64 (b : Int)).toNat = b := by rw [BitVec.ofInt_natCast, BitVec.toNat_ofNat]; exact Nat.mod_eq_of_lt (by omega)
  have : a &&& b ≤ a := Nat.and_le_left
  simp only [aBin, intBin, if_true]
  rw [show IntKind.u64.bits = 64 from rfl, BitVec.toNat_and, e1, e2, w_u64 (by omega) (by omega)]
theorem and_127 {a : Nat} (ha : a < 2305843009213693952) {α : Type} (f : AV → Option α) : aBin .and (.int .i64 (a : Int)) (.int .i64 127) f = f (.int .i64 ((a % 128 : Nat) : Int)) := by
  have e1 : (BitVec.ofInt 64 (a : Int)).toNat = a := by rw [BitVec.ofInt_natCast, BitVec.toNat_ofNat]; exact Nat.mod_eq_of_lt (by omega)
  have e2 : (BitVec.ofInt 64 (127 : Int)).toNat = 127 := rfl
  have := Nat.and_two_pow_sub_one_eq_mod a 7
  rw [show 2 ^ 7 - 1 = 127 from rfl] at this
  simp only [aBin, intBin, if_true]
  rw [show IntKind.i64.bits = 64 from rfl, BitVec.toNat_and, e1, e2, this, w_i64 (by omega) (by omega)]
theorem shr_u {x r : Nat} (hr : r < 64) {α : Type} (f : AV → Option α) : aShift .shr (.int .u64 (x : Int)) (.int .u64 (r : Int)) f = f (.int .u64 ((x / 2 ^ r : Nat) : Int)) := by
  have h : min (r : Int).toNat IntKind.u64.bits = r := by simp [IntKind.bits]; omega
  simp only [aShift, if_neg (show ¬ (r : Int) < 0 by omega), h]
  rw [Int.fdiv_eq_ediv_of_nonneg _ (Int.pow_nonneg (by omega)), Int.natCast_ediv, Int.natCast_pow]
  rfl
theorem add_u {a b : Nat} (h : a + b < 18446744073709551616) {α : Type} (f : AV → Option α) : aBin .add (.int .u64 (a : Int)) (.int .u64 (b : Int)) f = f (.int .u64 ((a + b : Nat) : Int)) := by
  rw [add_i, w_u64 (by omega) (by omega), Int.natCast_add]
theorem m_eqs : m0 8 = 6148914691236517205 ∧ m1 8 = 3689348814741910323 ∧ m2 8 = 1085102592571150095 := ⟨rfl, rfl, rfl⟩
theorem ones_run (x : Nat) (hx : x < 18446744073709551616) (k : Nat) (s : Store) : rn (k + 1) 22 [.int .u64 (x : Int)] s = some (.int .i64 (cnt 64 x : Int), s) := by
  rw [bits_OnesCount64.eq]
  unfold bits_OnesCount64.f bits_OnesCount64.p0
  obtain ⟨ho1, ho2⟩ := ones_eq x hx
  obtain ⟨em0, em1, em2⟩ := m_eqs
  have l0 : ∀ y, (y &&& 6148914691236517205) ≤ 6148914691236517205 := fun y => Nat.and_le_right
  have l1 : ∀ y, (y &&& 3689348814741910323) ≤ 3689348814741910323 := fun y => Nat.and_le_right
  have l2 : ∀ y, (y &&& 1085102592571150095) ≤ 1085102592571150095 := fun y => Nat.and_le_right
  have a1 := l0 (x / 2); have a2 := l0 x
  have ea : (x / 2 &&& 6148914691236517205) + (x &&& 6148914691236517205) = wA 8 x := by unfold wA; rw [em0]
  have ha : wA 8 x < 18446744073709551616 := by omega
  have b1 := l1 (wA 8 x / 4); have b2 := l1 (wA 8 x)
  have eb : (wA 8 x / 4 &&& 3689348814741910323) + (wA 8 x &&& 3689348814741910323) = wB 8 x := by unfold wB; rw [em1]
  have hb : wB 8 x < 8000000000000000000 := by omega
  have ec : (wB 8 x / 16 + wB 8 x &&& 1085102592571150095) = wC 8 x := by unfold wC; rw [em2]
  have hc := l2 (wB 8 x / 16 + wB 8 x)
  rw [ec] at hc
  have st : ∀ {α : Type} (f : AV → Option α), aShift .shr (.int .u64 (x : Int)) (.int .u64 1) f = f (.int .u64 ((x / 2 : Nat) : Int)) := fun f => shr_u (r := 1) (by omega) f
  rw [st, show (6148914691236517205 : Int) = ((6148914691236517205 : Nat) : Int) from rfl, and_u (by omega) (by omega), and_u hx (by omega), add_u (by omega), ea]
  have st2 : ∀ (y : Nat) {α : Type} (f : AV → Option α), aShift .shr (.int .u64 (y : Int)) (.int .u64 2) f = f (.int .u64 ((y / 4 : Nat) : Int)) := fun y _ f => shr_u (r := 2) (by omega) f
  have st4 : ∀ (y : Nat) {α : Type} (f : AV → Option α), aShift .shr (.int .u64 (y : Int)) (.int .u64 4) f = f (.int .u64 ((y / 16 : Nat) : Int)) := fun y _ f => shr_u (r := 4) (by omega) f
  have st8 : ∀ (y : Nat) {α : Type} (f : AV → Option α), aShift .shr (.int .u64 (y : Int)) (.int .u64 8) f = f (.int .u64 ((y / 256 : Nat) : Int)) := fun y _ f => shr_u (r := 8) (by omega) f
  have st16 : ∀ (y : Nat) {α : Type} (f : AV → Option α), aShift .shr (.int .u64 (y : Int)) (.int .u64 16) f = f (.int .u64 ((y / 65536 : Nat) : Int)) := fun y _ f => shr_u (r := 16) (by omega) f
  have st32 : ∀ (y : Nat) {α : Type} (f : AV → Option α), aShift .shr (.int .u64 (y : Int)) (.int .u64 32) f = f (.int .u64 ((y / 4294967296 : Nat) : Int)) := fun y _ f => shr_u (r := 32) (by omega) f
  rw [st2, show (3689348814741910323 : Int) = ((3689348814741910323 : Nat) : Int) from rfl, and_u (by omega) (by omega), and_u ha (by omega), add_u (by omega), eb]
  rw [st4, add_u (by omega), show (1085102592571150095 : Int) = ((1085102592571150095 : Nat) : Int) from rfl, and_u (by omega) (by omega), ec]
  have hd : wC 8 x + wC 8 x / 256 < 2000000000000000000 := by omega
  rw [st8, add_u (by omega), st16, add_u (by omega), st32, add_u (by omega), conv_i]
  have eo : wC 8 x + wC 8 x / 256 + (wC 8 x + wC 8 x / 256) / 65536 + (wC 8 x + wC 8 x / 256 + (wC 8 x + wC 8 x / 256) / 65536) / 4294967296 = ones x := rfl
  rw [eo, w_i64 (by omega) (by omega), and_127 ho2, ho1]

/-! ### the lowest bit -/
open Go.Lib (ctz lowest_bit deBruijn64_at)
theorem tab_get (i : Nat) : (tab.map (AV.int .u8))[i]? = (tab[i]?).map (AV.int .u8) := List.getElem?_map ..
theorem tab_at (k : Nat) (hk : k < 64) : 2 ^ k * 285870213051353865 % 18446744073709551616 / 288230376151711744 < 64 ∧ tab[2 ^ k * 285870213051353865 % 18446744073709551616 / 288230376151711744]? = some (k : Int) := by
  have h : ∀ k : Nat, k < 64 → 2 ^ k * 285870213051353865 % 18446744073709551616 / 288230376151711744 < 64 ∧ tab[2 ^ k * 285870213051353865 % 18446744073709551616 / 288230376151711744]? = some ((k : Nat) : Int) := by decide +kernel
  exact h k hk
theorem index_arr {l off len es ep : Nat} {k : IntKind} {j : Int} {α : Type} {κ : AV → Option α} (h0 : 0 ≤ j) (h1 : j < len) : aIndexArr len es (.ptr l off ep) (.int k j) κ = κ (.ptr l (off + j.toNat * es) ep) := by simp [aIndexArr, h0, h1]
/-- The store holds the table. -/
def HasTab (s : Store) : Prop := s.get 0 = .cells (tab.map (.int .u8)) true ∧ 0 < s.next
theorem HasTab.ext {s s' : Store} (h : HasTab s) (e : Ext s s') : HasTab s' := ⟨(e.get 0 h.2).trans h.1, Nat.lt_of_lt_of_le h.2 e.next⟩
theorem ctz_run {s : Store} (h : HasTab s) (x : Nat) (h0 : x ≠ 0) (hx : x < 18446744073709551616) (k : Nat) : rn (k + 1) 21 [.int .u64 (x : Int)] s = some (.int .i64 (ctz 64 x : Int), s) := by
  rw [bits_TrailingZeros64.eq]
  unfold bits_TrailingZeros64.f bits_TrailingZeros64.p0
  obtain ⟨l1, l2⟩ := lowest_bit 64 x h0 hx
  rw [show (2 : Nat) ^ 64 = 18446744073709551616 from rfl] at l1
  obtain ⟨t1, t2⟩ := tab_at (ctz 64 x) l2
  have hp := two_lt l2
  generalize ctz 64 x = t at *
  have hz : ((x : Int) == 0) = false := beq_eq_false_iff_ne.2 (by omega)
  have hn : ∀ {α : Type} (f : AV → Option α), aUn .neg (.int .u64 (x : Int)) f = f (.int .u64 ((18446744073709551616 - x : Nat) : Int)) := by
    intro α f
    simp only [aUn]
    congr 2
    simp [IntKind.wrap, IntKind.bits, IntKind.signed]; omega
  have hm : ∀ {α : Type} (f : AV → Option α), aBin .mul (.int .u64 ((2 ^ t : Nat) : Int)) (.int .u64 285870213051353865) f = f (.int .u64 ((2 ^ t * 285870213051353865 % 18446744073709551616 : Nat) : Int)) := by
    intro α f
    generalize 2 ^ t = y
    have e : IntKind.u64.wrap ((y : Int) * 285870213051353865) = ((y * 285870213051353865 % 18446744073709551616 : Nat) : Int) := by
      simp [IntKind.wrap, IntKind.bits, IntKind.signed]
    simp only [aBin, intBin, if_true, e]
  have hs : ∀ (y : Nat) {α : Type} (f : AV → Option α), aShift .shr (.int .u64 (y : Int)) (.int .u64 58) f = f (.int .u64 ((y / 288230376151711744 : Nat) : Int)) := fun y _ f => shr_u (r := 58) (by omega) f
  rw [eql_i, hz, if_f, hn, and_u hx (by omega), l1, hm, hs]
  generalize 2 ^ t * 285870213051353865 % 18446744073709551616 / 288230376151711744 = j at *
  rw [index_arr (by omega) (by omega), Int.toNat_natCast, Nat.mul_one, Nat.zero_add, load_1 (ep := 64) h.1 rfl (v := .int .u8 t) (by rw [tab_get, t2]; rfl), conv_i, w_i64 (by omega) (by omega)]
end Go.Proofs.YtffememmkkopmaaDoor.Sim
