/- Seat 01: how a number is read. No condition. -/
import Derived.Test.YtppaefjgkocakaaSpB
namespace Go.Proofs.Ytppaefjgkocakaa.Sim
set_option linter.unusedSimpArgs false
set_option linter.unusedVariables false

/-- The number that bytes make, the last one first. -/
def valI : List Int → Int
  | [] => 0
  | d :: ds => d + 256 * valI ds
theorem valI_bnd : ∀ (l : List Int), (∀ x ∈ l, 0 ≤ x ∧ x < 256) → 0 ≤ valI l ∧ valI l < 256 ^ l.length
  | [], _ => ⟨Int.le_refl _, by simp [valI]⟩
  | d :: ds, h => by
    obtain ⟨h1, h2⟩ := valI_bnd ds fun x hx => h x (List.mem_cons_of_mem _ hx)
    have hd := h d List.mem_cons_self
    rw [valI, List.length_cons, Int.pow_succ]
    omega
theorem valI_snoc : ∀ (l : List Int) (x : Int), valI (l ++ [x]) = valI l + x * 256 ^ l.length
  | [], x => by simp [valI]
  | d :: ds, x => by
    rw [List.cons_append, valI, valI, valI_snoc ds x, List.length_cons, Int.pow_succ, Int.mul_add, ← Int.mul_assoc x, Int.mul_comm (x * 256 ^ ds.length) 256]
    omega
/-- A number's bytes make it again. -/
theorem valI_le : ∀ (f : Nat) (n : Int), 0 ≤ n → n < 256 ^ f → valI (leI f n) = n
  | 0, n, h0, h1 => by simp at h1; simp [leI, valI]; omega
  | f + 1, n, h0, h1 => by
    rw [leI_succ f n]
    split
    · rename_i h; rw [h]; rfl
    · rw [valI, valI_le f (n / 256) (by omega) (by rw [Int.pow_succ] at h1; omega)]; omega
/-- Bytes whose last one isn't zero are a number's own. -/
theorem le_valI : ∀ (l : List Int) (f : Nat), l.length ≤ f → (∀ x ∈ l, 0 ≤ x ∧ x < 256) → (∀ h : l ≠ [], l.getLast h ≠ 0) → leI f (valI l) = l
  | [], f, _, _, _ => by cases f <;> simp [leI, valI]
  | d :: ds, f, hf, hu, hl => by
    obtain ⟨f, rfl⟩ : ∃ q, f = q + 1 := ⟨f - 1, by simp at hf; omega⟩
    have hd := hu d List.mem_cons_self
    have hds := fun x hx => hu x (List.mem_cons_of_mem d hx)
    have hb := valI_bnd ds hds
    have ih := le_valI ds f (by simpa using hf) hds (fun h => by have := hl (by simp); rwa [List.getLast_cons h] at this)
    have hne : valI (d :: ds) ≠ 0 := by
      rw [valI]
      cases ds with
      | nil => have := hl (by simp); simp at this; simp [valI]; omega
      | cons e es =>
        intro q
        have hz : valI (e :: es) = 0 := by omega
        rw [hz] at ih
        have : leI f 0 = [] := by cases f <;> simp [leI]
        rw [this] at ih
        cases ih
    rw [leI_succ, if_neg hne]
    have e1 : valI (d :: ds) % 256 = d := by rw [valI]; omega
    have e2 : valI (d :: ds) / 256 = valI ds := by rw [valI]; omega
    rw [e1, e2, ih]
theorem leI_last : ∀ (f : Nat) (n : Int), 0 ≤ n → n < 256 ^ f → ∀ h : leI f n ≠ [], (leI f n).getLast h ≠ 0
  | 0, _, _, _, h => absurd rfl h
  | f + 1, n, h0, h1, h => by
    by_cases hn : n = 0
    · subst hn; exact absurd (by simp [leI]) h
    · have e : leI (f + 1) n = (n % 256) :: leI f (n / 256) := by rw [leI_succ, if_neg hn]
      have hlt : n / 256 < 256 ^ f := by rw [Int.pow_succ] at h1; omega
      have e2 : (leI (f + 1) n).getLast h = ((n % 256) :: leI f (n / 256)).getLast (by simp) := by congr 1
      rw [e2]
      by_cases hz : leI f (n / 256) = []
      · have : n / 256 = 0 := by
          cases f with
          | zero => simp at hlt; omega
          | succ f =>
            by_cases q : n / 256 = 0
            · exact q
            · rw [leI_succ, if_neg q] at hz; cases hz
        simp only [hz, List.getLast_singleton]; omega
      · rw [List.getLast_cons hz]
        exact leI_last f (n / 256) (by omega) hlt hz

/-- The number in front of bytes: it, what stands behind it, the error. -/
def numR (b : List Int) (most : Int) : Int × List Int × Int :=
  match b with
  | [] => (0, [], 2)
  | k :: r => if k > 8 then (0, [], 3) else if k > r.length then (0, [], 2) else if k > 0 ∧ r.getD (k - 1).toNat 0 = 0 then (0, [], 3)
    else if valI (r.take k.toNat) > most then (0, [], 6) else (valI (r.take k.toNat), r.drop k.toNat, 0)

theorem p256 (i : Nat) : ((256 ^ i : Nat) : Int) = (256 : Int) ^ i := Int.natCast_pow 256 i
theorem or_disj {a x : Int} {i : Nat} (ha0 : 0 ≤ a) (ha : a < 256 ^ i) (hx0 : 0 ≤ x) (hx : x < 256) (hi : i ≤ 7) : (BitVec.ofInt 64 a ||| BitVec.ofInt 64 (x * 256 ^ i)).toNat = (a + x * 256 ^ i).toNat := by
  obtain ⟨A, rfl⟩ : ∃ A : Nat, a = A := ⟨a.toNat, by omega⟩
  obtain ⟨X, rfl⟩ : ∃ X : Nat, x = X := ⟨x.toNat, by omega⟩
  have hA : A < 256 ^ i := by rw [← p256] at ha; omega
  have hX : X < 256 := by omega
  have hp : 256 ^ i ≤ 256 ^ 7 := Nat.pow_le_pow_right (by omega) hi
  have h7 : (256 : Nat) ^ 7 = 72057594037927936 := rfl
  have hXi : X * 256 ^ i ≤ 255 * 256 ^ 7 := Nat.mul_le_mul (by omega) hp
  have e : ((X : Int) * 256 ^ i) = ((X * 256 ^ i : Nat) : Int) := by rw [Int.natCast_mul, p256]
  rw [e, BitVec.ofInt_natCast, BitVec.ofInt_natCast, BitVec.toNat_or, BitVec.toNat_ofNat, BitVec.toNat_ofNat, Nat.mod_eq_of_lt (by omega), Nat.mod_eq_of_lt (by omega)]
  have e2 : (256 : Nat) ^ i = 2 ^ (8 * i) := by rw [Nat.pow_mul]
  have e3 : X * 256 ^ i = X <<< (8 * i) := by rw [Nat.shiftLeft_eq, e2]
  rw [← Int.natCast_add, Int.toNat_natCast, e3, Nat.or_comm, ← Nat.shiftLeft_add_eq_or_of_lt (by rw [← e2]; exact hA), Nat.add_comm]

theorem number_loop (k : Nat) {s : Store} {rv x1 : AV} {r : List Int} {kk : Nat} (hv : IsV s rv .u8 r) (hu : ∀ x ∈ r, 0 ≤ x ∧ x < 256) (hk : kk ≤ 8) (hkr : kk ≤ r.length) : ∀ (n i : Nat), i ≤ kk → kk - i < n →
    num_number.l0 k n rv x1 (.int .i64 kk) (.int .u64 (valI (r.take i))) (.int .i64 kk) (.int .i64 i) s = num_number.p2 k rv x1 (.int .i64 kk) (.int .u64 (valI (r.take kk))) s
  | 0, i, hi, hn => by omega
  | n + 1, i, hi, hn => by
    have hs : num_number.l0 k (n + 1) = fun x0 x1 x7 x8 x38 x39 s => num_number.p6 k (num_number.l0 k n) x0 x1 x7 x8 x38 x39 s := rfl
    rw [hs]
    clear hs
    simp only
    unfold num_number.p6 num_number.p5
    rw [lss_i]
    by_cases h : i < kk
    · rw [decide_eq_true (by omega), if_t]
      unfold num_number.p4 num_number.p3
      have hw1 : IntKind.i64.wrap ((i : Int) + 1) = ((i + 1 : Nat) : Int) := by rw [w_i64 (by omega) (by omega)]; omega
      obtain ⟨p, p1, p2⟩ := atV hv (show (0 : Int) ≤ i by omega) (by omega)
      have hir : i < r.length := by omega
      have eg : r.getD (i : Int).toNat 0 = r[i] := by simp [hir]
      have hx := hu _ (List.getElem_mem hir)
      have hb := valI_bnd (r.take i) fun x hx => hu x (List.mem_of_mem_take hx)
      have hlt : (r.take i).length = i := by simp; omega
      rw [hlt] at hb
      have h8 : (256 : Int) ^ i ≤ 256 ^ 7 := by
        have : (256 : Nat) ^ i ≤ 256 ^ 7 := Nat.pow_le_pow_right (by omega) (by omega)
        rw [← p256 i, ← p256 7]; exact Int.ofNat_le.2 this
      have h7 : (256 : Int) ^ 7 = 72057594037927936 := rfl
      have hpos : 0 < (256 : Int) ^ i := Int.pow_pos (by omega)
      have hmul : r[i] * 256 ^ i ≤ 255 * 256 ^ i := Int.mul_le_mul_of_nonneg_right (by omega) (by omega)
      have hmul0 : 0 ≤ r[i] * 256 ^ i := Int.mul_nonneg hx.1 (by omega)
      have hsum : valI (r.take i) + r[i] * 256 ^ i < 18446744073709551616 := by
        have : (255 : Int) * 256 ^ i ≤ 255 * 72057594037927936 := Int.mul_le_mul_of_nonneg_left (by omega) (by omega)
        omega
      have hshl : ∀ {α : Type} (f : AV → Option α), aShift .shl (.int .u64 r[i]) (.int .i64 (8 * (i : Int))) f = f (.int .u64 (r[i] * 256 ^ i)) := by
        intro α f
        have e1 : min (8 * (i : Int)).toNat IntKind.u64.bits = 8 * i := by simp [IntKind.bits]; omega
        simp only [aShift, if_neg (show ¬ (8 * (i : Int)) < 0 by omega), e1]
        have e2 : (2 : Int) ^ (8 * i) = 256 ^ i := by rw [Int.pow_mul]; rfl
        rw [e2, w_u64 hmul0 (by omega)]
      have hor : ∀ {α : Type} (f : AV → Option α), aBin .or (.int .u64 (valI (r.take i))) (.int .u64 (r[i] * 256 ^ i)) f = f (.int .u64 (valI (r.take (i + 1)))) := by
        intro α f
        have e1 := or_disj (i := i) hb.1 hb.2 hx.1 hx.2 (by omega)
        simp only [aBin, intBin, if_true]
        rw [show (IntKind.u64.bits) = 64 from rfl, e1, List.take_succ_eq_append_getElem hir, valI_snoc, hlt, Int.toNat_of_nonneg (by omega), w_u64 (by omega) hsum]
      have hmul8 : IntKind.i64.wrap (8 * (i : Int)) = 8 * (i : Int) := w_i64 (by omega) (by omega)
      have hm : ∀ {α : Type} (f : AV → Option α), aBin .mul (.int .i64 8) (.int .i64 (i : Int)) f = f (.int .i64 (8 * (i : Int))) := by
        intro α f
        simp only [aBin, intBin, if_true, hmul8]
      rw [p1, p2, eg, conv_i, w_u64 (by omega) (by omega), hm, hshl, hor, add_i, hw1]
      exact number_loop k hv hu hk hkr n (i + 1) (by omega) (by omega)
    · rw [decide_eq_false (by omega), if_f, show i = kk by omega]

theorem number_run {s : Store} {bv : AV} {b : List Int} {most : Int} (hv : IsV s bv .u8 b) (hu : ∀ x ∈ b, 0 ≤ x ∧ x < 256) (hb : b.length ≤ 1000000) (k : Nat) (hk : 20 ≤ k) : ∃ lv, rn (k + 1) 26 [bv, .int .u64 most] s = some (.tuple [.int .u64 (numR b most).1, lv, .int .i64 (numR b most).2.2], s) ∧ IsV s lv .u8 (numR b most).2.1 ∧ (∀ a b c d f, lv = .sl a b c d f → ∃ b c d f, bv = .sl a b c d f) := by
  rw [num_number.eq]
  unfold num_number.f num_number.p13 num_number.p12
  rw [lenV hv, eql_i]
  cases b with
  | nil =>
    rw [show (((([] : List Int).length : Nat) : Int) == 0) = true from rfl, if_t]
    exact ⟨.nilsl, rfl, .inl ⟨rfl, rfl⟩, fun a b c d f e => by cases e⟩
  | cons k0 r =>
    have hz : ((((k0 :: r).length : Nat) : Int) == 0) = false := beq_eq_false_iff_ne.2 (by simp only [List.length_cons]; omega)
    rw [hz, if_f]
    unfold num_number.p11
    obtain ⟨p, p1, p2⟩ := atV hv (show (0 : Int) ≤ 0 by omega) (by simp only [List.length_cons]; omega)
    have hk0 := hu k0 List.mem_cons_self
    have hur := fun x hx => hu x (List.mem_cons_of_mem k0 hx)
    have e0 : (k0 :: r).getD (0 : Int).toNat 0 = k0 := rfl
    rw [p1, p2, e0, conv_i, w_i64 (by omega) (by omega)]
    unfold num_number.p10
    obtain ⟨rv, r1, _, r3, _, r2⟩ := sliceV hv (a := 1) (b := (k0 :: r).length) (by simp) (Nat.le_refl _)
    have r2' : ∀ {α : Type} (f : AV → Option α), aSliceSl 1 bv (some (.int .i64 1)) none f = f rv := fun f => r2 rfl .i64 f
    have r1' : IsV s rv .u8 r := by
      have e : (((k0 :: r).drop 1).take ((k0 :: r).length - 1)) = r := by simp
      rw [e] at r1; exact r1
    rw [r2']
    unfold num_number.p9
    rw [gtr_i]
    by_cases h1 : k0 > 8
    · have e : numR (k0 :: r) most = (0, [], 3) := by unfold numR; simp only; rw [if_pos h1]
      rw [decide_eq_true h1, if_t, e]
      exact ⟨.nilsl, rfl, .inl ⟨rfl, rfl⟩, fun a b c d f e => by cases e⟩
    · rw [decide_eq_false h1, if_f, lenV r1', gtr_i]
      by_cases h2 : k0 > (r.length : Int)
      · have e : numR (k0 :: r) most = (0, [], 2) := by unfold numR; simp only; rw [if_neg h1, if_pos h2]
        rw [decide_eq_true h2, if_t, e]
        exact ⟨.nilsl, rfl, .inl ⟨rfl, rfl⟩, fun a b c d f e => by cases e⟩
      · obtain ⟨kk, hkk⟩ : ∃ kk : Nat, k0 = kk := ⟨k0.toNat, by omega⟩
        subst hkk
        have hgo : ¬ ((kk : Int) > 0 ∧ r.getD ((kk : Int) - 1).toNat 0 = 0) → ∃ lv, num_number.p8 k rv (.int .u64 most) (.int .i64 kk) s = some (.tuple [.int .u64 (numR ((kk : Int) :: r) most).1, lv, .int .i64 (numR ((kk : Int) :: r) most).2.2], s) ∧ IsV s lv .u8 (numR ((kk : Int) :: r) most).2.1 ∧ (∀ a b c d f, lv = .sl a b c d f → ∃ b c d f, bv = .sl a b c d f) := by
          intro h3
          have hl := number_loop k (x1 := .int .u64 most) (kk := kk) r1' hur (by omega) (by omega) k 0 (by omega) (by omega)
          rw [Int.natCast_zero] at hl
          unfold num_number.p8 num_number.p7
          rw [show valI (r.take 0) = 0 from rfl] at hl
          rw [hl]
          unfold num_number.p2
          rw [gtr_i]
          have hbn := valI_bnd (r.take kk) fun x hx => hur x (List.mem_of_mem_take hx)
          by_cases h4 : valI (r.take kk) > most
          · have e : numR ((kk : Int) :: r) most = (0, [], 6) := by unfold numR; simp only [Int.toNat_natCast]; rw [if_neg h1, if_neg h2, if_neg h3, if_pos h4]
            rw [decide_eq_true h4, if_t, e]
            exact ⟨.nilsl, rfl, .inl ⟨rfl, rfl⟩, fun a b c d f e => by cases e⟩
          · have e : numR ((kk : Int) :: r) most = (valI (r.take kk), r.drop kk, 0) := by unfold numR; simp only [Int.toNat_natCast]; rw [if_neg h1, if_neg h2, if_neg h3, if_neg h4]
            rw [decide_eq_false h4, if_f, e]
            unfold num_number.p1 num_number.p0
            obtain ⟨lv, l1, _, l3, _, l2⟩ := sliceV r1' (a := kk) (b := r.length) (by omega) (Nat.le_refl _)
            have l2' : ∀ {α : Type} (f : AV → Option α), aSliceSl 1 rv (some (.int .i64 (kk : Int))) none f = f lv := fun f => l2 rfl .i64 f
            have l1' : IsV s lv .u8 (r.drop kk) := by
              have e : ((r.drop kk).take (r.length - kk)) = r.drop kk := List.take_of_length_le (by simp)
              rw [e] at l1; exact l1
            simp only [bnd, guard_tt, guard_ff, guard_tf, guard_ft, pick_t, pick_f, if_t, if_f, add_i, sub_i, lss_i, leq_i, gtr_i, geq_i, eql_i, neq_i, min_i, max_i, conv_i, len_sl, len_nil, not_b, cells_agg, new_s, fld_p, nil_p, l2']
            exact ⟨lv, rfl, l1', fun a b c d f q => by obtain ⟨b', c', d', f', q'⟩ := l3 a b c d f q; exact r3 a b' c' d' f' q'⟩
        rw [decide_eq_false h2, if_f, gtr_i]
        by_cases h3 : (kk : Int) > 0
        · obtain ⟨q, q1, q2⟩ := atV r1' (i := (kk : Int) - 1) (by omega) (by omega)
          simp only [decide_eq_true h3, bnd, guard_tt, guard_ff, guard_tf, guard_ft, pick_t, pick_f, if_t, if_f, add_i, sub_i, lss_i, leq_i, gtr_i, geq_i, eql_i, neq_i, min_i, max_i, conv_i, len_sl, len_nil, not_b, cells_agg, new_s, fld_p, nil_p, w_i64 (show -9223372036854775808 ≤ (kk : Int) - 1 by omega) (show (kk : Int) - 1 < 9223372036854775808 by omega), q1, q2]
          by_cases h4 : r.getD ((kk : Int) - 1).toNat 0 = 0
          · have e : numR ((kk : Int) :: r) most = (0, [], 3) := by unfold numR; simp only; rw [if_neg h1, if_neg h2, if_pos ⟨h3, h4⟩]
            rw [h4, e]
            exact ⟨.nilsl, rfl, .inl ⟨rfl, rfl⟩, fun a b c d f e => by cases e⟩
          · have h4' : (r.getD ((kk : Int) - 1).toNat 0 == 0) = false := by simpa using h4
            rw [h4', if_f]
            exact hgo fun q => h4 q.2
        · simp only [decide_eq_false h3, bnd, guard_tt, guard_ff, guard_tf, guard_ft, pick_t, pick_f, if_t, if_f, add_i, sub_i, lss_i, leq_i, gtr_i, geq_i, eql_i, neq_i, min_i, max_i, conv_i, len_sl, len_nil, not_b, cells_agg, new_s, fld_p, nil_p]
          exact hgo fun q => h3 q.1
end Go.Proofs.Ytppaefjgkocakaa.Sim
