/- Layer 29: numbers that wrap; how many chunks, and how many asks. Plain law, no program. -/
import Derived.Test.YtjbgdpfkmcibbaaGreatDoorBRow
namespace Go.Proofs.YtjbgdpfkmcibbaaGreatDoor.Sim
set_option linter.unusedSimpArgs false
set_option linter.unusedVariables false

theorem wr_mod (a : Int) : (IntKind.i64.wrap a) % 18446744073709551616 = a % 18446744073709551616 := by
  simp [IntKind.wrap, IntKind.bits, IntKind.signed]; split <;> omega
theorem wr_congr {a b : Int} (h : a % 18446744073709551616 = b % 18446744073709551616) : IntKind.i64.wrap a = IntKind.i64.wrap b := by
  simp only [IntKind.wrap, IntKind.bits, IntKind.signed, show (2 : Int) ^ 64 = 18446744073709551616 from rfl, h]
theorem wr_add_l (a b : Int) : IntKind.i64.wrap (IntKind.i64.wrap a + b) = IntKind.i64.wrap (a + b) := wr_congr (by rw [Int.add_emod, wr_mod, ← Int.add_emod])
theorem wr_add_r (a b : Int) : IntKind.i64.wrap (a + IntKind.i64.wrap b) = IntKind.i64.wrap (a + b) := wr_congr (by rw [Int.add_emod, wr_mod, ← Int.add_emod])
theorem wr_sub_l (a b : Int) : IntKind.i64.wrap (IntKind.i64.wrap a - b) = IntKind.i64.wrap (a - b) := wr_congr (by rw [Int.sub_emod, wr_mod, ← Int.sub_emod])
theorem wr_mul_l (a b : Int) : IntKind.i64.wrap (IntKind.i64.wrap a * b) = IntKind.i64.wrap (a * b) := wr_congr (by rw [Int.mul_emod, wr_mod, ← Int.mul_emod])
theorem wr_mul_r (a b : Int) : IntKind.i64.wrap (a * IntKind.i64.wrap b) = IntKind.i64.wrap (a * b) := wr_congr (by rw [Int.mul_emod, wr_mod, ← Int.mul_emod])
theorem wr_wr (a : Int) : IntKind.i64.wrap (IntKind.i64.wrap a) = IntKind.i64.wrap a := wr_congr (wr_mod a)

theorem mul_i (k : IntKind) (a b : Int) {α : Type} (f : AV → Option α) : aBin .mul (.int k a) (.int k b) f = f (.int k (k.wrap (a * b))) := by simp [aBin, intBin]
theorem quo_i (k : IntKind) (a : Int) {b : Int} (h : b ≠ 0) {α : Type} (f : AV → Option α) : aBin .quo (.int k a) (.int k b) f = f (.int k (k.wrap (a.tdiv b))) := by simp [aBin, intBin, h]

/-- So many parts of so much. -/
def parts (n each : Int) : Int := (n + each - 1) / each
theorem parts_step {n each : Int} (h : 1 ≤ each) : parts n each = parts (n - each) each + 1 := by
  unfold parts
  have := Int.add_mul_ediv_left (n - each + each - 1) 1 (show each ≠ 0 by omega)
  rw [← this]
  congr 1
  omega
theorem parts_1 {n each : Int} (h0 : 1 ≤ n) (h1 : n ≤ each) : parts n each = 1 := by
  unfold parts
  have := Int.add_mul_ediv_left (n - 1) 1 (show each ≠ 0 by omega)
  rw [show n + each - 1 = n - 1 + each * 1 by omega, this, Int.ediv_eq_zero_of_lt (by omega) (by omega)]
  rfl
theorem parts_0 {n each : Int} (h0 : -each < n) (h1 : n ≤ 0) (h : 1 ≤ each) : parts n each = 0 := by
  unfold parts
  exact Int.ediv_eq_zero_of_lt (by omega) (by omega)
theorem parts_le {n each : Int} (h0 : 0 ≤ n) (h : 1 ≤ each) : 0 ≤ parts n each ∧ parts n each ≤ n := by
  unfold parts
  constructor
  · exact Int.ediv_nonneg (by omega) (by omega)
  · have h1 : (n + each - 1) / each < n + 1 := by
      rw [Int.ediv_lt_iff_lt_mul (by omega)]
      have : (n + 1) * each = n * each + each := by rw [Int.add_mul, Int.one_mul]
      have : n * 1 ≤ n * each := Int.mul_le_mul_of_nonneg_left h h0
      omega
    omega
/-- How many chunks. -/
def cnt (size chunk : Int) : Int := max 1 (parts size chunk)
theorem cnt_step {size chunk : Int} (h : 1 ≤ chunk) (h1 : chunk < size) : cnt size chunk = cnt (size - chunk) chunk + 1 := by
  unfold cnt
  rw [parts_step (n := size) h]
  have : 0 < parts (size - chunk) chunk := by
    by_cases c : size - chunk ≤ chunk
    · rw [parts_1 (by omega) c]; omega
    · unfold parts
      have := Int.ediv_le_ediv (a := chunk) (b := size - chunk + chunk - 1) (c := chunk) (by omega) (by omega)
      rw [Int.ediv_self (by omega)] at this
      omega
  omega
theorem cnt_base {size chunk : Int} (h0 : 0 ≤ size) (h1 : size ≤ chunk) (h : 1 ≤ chunk) : cnt size chunk = 1 := by
  unfold cnt
  by_cases c : size ≤ 0
  · rw [parts_0 (by omega) c h]; rfl
  · rw [parts_1 (by omega) h1]; rfl
theorem cnt_le {size chunk : Int} (h0 : 0 ≤ size) (h : 1 ≤ chunk) : 1 ≤ cnt size chunk ∧ cnt size chunk ≤ size + 1 := by
  have := parts_le h0 h
  unfold cnt
  omega
end Go.Proofs.YtjbgdpfkmcibbaaGreatDoor.Sim
