/- The texts B06A, B06B, B06C, B06D, B06E, B06F, B06G, B06H, one behind the other. No condition. -/
import Derived.Test.YtkfdgegmahbkiaaFunB
import Derived.Test.YtkfdgegmahbkiaaSimW
import Derived.Test.YtkfdgegmahbkiaaSimQ
import Derived.Test.YtkfdgegmahbkiaaB01J
import Derived.Test.YtkfdgegmahbkiaaB05P
import Derived.KernelRfl
namespace Go.Proofs.Ytkfdgegmahbkiaa.Sim
set_option linter.unusedSimpArgs false
set_option linter.unusedVariables false

def polyB : BitVec 32 := 0xedb88320#32
/-- A step of the register. -/
def st (r : BitVec 32) : BitVec 32 := (r >>> 1) ^^^ (if r.getLsbD 0 then polyB else 0#32)
def stq : Nat → BitVec 32 → BitVec 32
  | 0, r => r
  | n + 1, r => stq n (st r)
theorem stq_add : ∀ (n m : Nat) (r : BitVec 32), stq (n + m) r = stq m (stq n r)
  | 0, m, r => by rw [Nat.zero_add]; rfl
  | n + 1, m, r => by rw [show n + 1 + m = (n + m) + 1 by omega]; exact stq_add n m (st r)
theorem st_xor (a b : BitVec 32) : st (a ^^^ b) = st a ^^^ st b := by
  unfold st
  rw [BitVec.getLsbD_xor, BitVec.ushiftRight_xor_distrib]
  have hx : ∀ c : BitVec 32, c ^^^ polyB ^^^ polyB = c := fun c => by rw [BitVec.xor_assoc, BitVec.xor_self, BitVec.xor_zero]
  cases a.getLsbD 0 <;> cases b.getLsbD 0 <;> simp [BitVec.xor_assoc] <;> simp [← BitVec.xor_assoc, BitVec.xor_comm polyB, hx]
theorem shr_c (x : BitVec 32) (n : Nat) : x >>> (n + 1) = (x >>> 1) >>> n := by rw [← BitVec.shiftRight_add, Nat.add_comm]
theorem stq_xor : ∀ (n : Nat) (a b : BitVec 32), stq n (a ^^^ b) = stq n a ^^^ stq n b
  | 0, _, _ => rfl
  | n + 1, a, b => by
    show stq n (st (a ^^^ b)) = _
    rw [st_xor, stq_xor n]; rfl
theorem st_zero : st 0#32 = 0#32 := by decide
theorem stq_zero : ∀ n, stq n 0#32 = 0#32
  | 0 => rfl
  | n + 1 => by show stq n (st 0#32) = _; rw [st_zero, stq_zero n]
theorem st_inj {x : BitVec 32} (h : st x = 0#32) : x = 0#32 := by
  unfold st at h
  have hb : x.getLsbD 0 = false := by
    cases hx : x.getLsbD 0 with
    | false => rfl
    | true =>
      rw [hx, if_pos rfl] at h
      have := congrArg (fun r : BitVec 32 => r.getLsbD 31) h
      rw [BitVec.getLsbD_xor, BitVec.getLsbD_ushiftRight] at this
      rw [BitVec.getLsbD_of_ge x (1 + 31) (by omega)] at this
      revert this; decide
  rw [hb] at h
  simp only [Bool.false_eq_true, if_false, BitVec.xor_zero] at h
  apply BitVec.eq_of_getLsbD_eq
  intro i hi
  rw [BitVec.getLsbD_zero]
  cases i with
  | zero => exact hb
  | succ i =>
    have := congrArg (fun r : BitVec 32 => r.getLsbD i) h
    simp only [BitVec.getLsbD_ushiftRight, BitVec.getLsbD_zero] at this
    rw [Nat.add_comm]; exact this
theorem stq_inj : ∀ (n : Nat) {x : BitVec 32}, stq n x = 0#32 → x = 0#32
  | 0, _, h => h
  | n + 1, x, h => st_inj (stq_inj n h)

/-- A bit goes through the register. -/
def stb (r : BitVec 32) (b : Bool) : BitVec 32 := st (r ^^^ (if b then 1#32 else 0#32))
/-- What stands above the lowest bits is moved. -/
theorem st_odd (w : BitVec 32) : st w = st (if w.getLsbD 0 then 1#32 else 0#32) ^^^ (w >>> 1) := by
  unfold st
  cases h : w.getLsbD 0
  · simp
  · simp only [if_true]
    rw [show (1#32 : BitVec 32).getLsbD 0 = true by decide, show (1#32 : BitVec 32) >>> 1 = 0#32 by decide]
    simp [BitVec.xor_comm]
/-- A byte's bits, the lowest first. -/
def bitsN : Nat → BitVec 32 → List Bool
  | 0, _ => []
  | n + 1, w => w.getLsbD 0 :: bitsN n (w >>> 1)
theorem stq_bits : ∀ (n : Nat) (r w : BitVec 32), stq n (r ^^^ w) = (bitsN n w).foldl stb r ^^^ (w >>> n)
  | 0, r, w => by simp [stq, bitsN]
  | n + 1, r, w => by
    have h1 : stq (n + 1) (r ^^^ w) = stq n (st (r ^^^ w)) := rfl
    have h2 : (bitsN (n + 1) w).foldl stb r = (bitsN n (w >>> 1)).foldl stb (stb r (w.getLsbD 0)) := rfl
    rw [h1, h2, st_xor, st_odd w, ← BitVec.xor_assoc, ← st_xor]
    have := stq_bits n (stb r (w.getLsbD 0)) (w >>> 1)
    unfold stb at this ⊢
    rw [this, ← shr_c w n]
theorem bitsN_len : ∀ (n : Nat) (w : BitVec 32), (bitsN n w).length = n
  | 0, _ => rfl
  | n + 1, w => by simp [bitsN, bitsN_len n]

/-- A byte goes through the register. -/
def stB (r : BitVec 32) (c : Int) : BitVec 32 := stq 8 (r ^^^ BitVec.ofInt 32 c)
def crcB (r : BitVec 32) (l : List Int) : BitVec 32 := l.foldl stB r
/-- The sum. -/
def sumB (l : List Int) : BitVec 32 := ~~~ (crcB (~~~ 0#32) l)
def footB (v : BitVec 32) : List Int := [((v.toNat % 256 : Nat) : Int), ((v.toNat / 256 % 256 : Nat) : Int), ((v.toNat / 65536 % 256 : Nat) : Int), ((v.toNat / 16777216 % 256 : Nat) : Int)]
def markB (l : List Int) : List Int := l ++ footB (sumB l)
theorem footB_len (v : BitVec 32) : (footB v).length = 4 := rfl
theorem footB_u8 (v : BitVec 32) : ∀ x ∈ footB v, 0 ≤ x ∧ x < 256 := by
  intro x hx
  simp only [footB, List.mem_cons, List.not_mem_nil, or_false] at hx
  omega
/-- Four bits at once. -/
def nib (i : BitVec 32) : BitVec 32 := stq 4 i
theorem st_shl (x : BitVec 32) (h : x.getLsbD 31 = false) : st (x <<< 1) = x := by
  unfold st
  have : (x <<< 1).getLsbD 0 = false := by simp
  rw [this]
  simp only [Bool.false_eq_true, if_false, BitVec.xor_zero]
  apply BitVec.eq_of_getLsbD_eq
  intro i hi
  rw [BitVec.getLsbD_ushiftRight, BitVec.getLsbD_shiftLeft]
  by_cases h31 : i = 31
  · subst h31; rw [h]; simp
  · have h1 : 1 + i < 32 := by omega
    simp [h1]
theorem stq_shr : ∀ (n : Nat) (x : BitVec 32), stq n ((x >>> n) <<< n) = x >>> n
  | 0, x => by simp [stq]
  | n + 1, x => by
    show stq n (st ((x >>> (n + 1)) <<< (n + 1))) = _
    have e : (x >>> (n + 1)) <<< (n + 1) = (((x >>> 1) >>> n) <<< n) <<< 1 := by
      rw [BitVec.shiftLeft_add, shr_c]
    have e2 : x >>> (n + 1) = (x >>> 1) >>> n := shr_c x n
    have hb : (((x >>> 1) >>> n) <<< n).getLsbD 31 = false := by
      rw [BitVec.getLsbD_shiftLeft, BitVec.getLsbD_ushiftRight, BitVec.getLsbD_ushiftRight]
      by_cases hn : n ≤ 31
      · rw [BitVec.getLsbD_of_ge x _ (by omega)]; simp
      · simp; omega
    rw [e, st_shl _ hb, stq_shr n, ← e2]
theorem nib_step (r : BitVec 32) : (r >>> 4) ^^^ nib (r &&& 15#32) = stq 4 r := by
  have e : r = (r &&& 15#32) ^^^ ((r >>> 4) <<< 4) := by
    apply BitVec.eq_of_getLsbD_eq
    intro i hi
    rw [BitVec.getLsbD_xor, BitVec.getLsbD_and, BitVec.getLsbD_shiftLeft, BitVec.getLsbD_ushiftRight]
    by_cases h4 : i < 4
    · have : (15#32 : BitVec 32).getLsbD i = true := by
        have : i = 0 ∨ i = 1 ∨ i = 2 ∨ i = 3 := by omega
        rcases this with rfl | rfl | rfl | rfl <;> decide
      simp [h4, this]
    · have : (15#32 : BitVec 32).getLsbD i = false := by
        have h : ∀ j : Fin 32, ¬ j.val < 4 → (15#32 : BitVec 32).getLsbD j.val = false := by decide
        exact h ⟨i, hi⟩ h4
      simp only [h4, this, hi, show 4 + (i - 4) = i by omega, decide_true, decide_false, Bool.and_false, Bool.not_false, Bool.true_and, Bool.false_xor]
  conv => rhs; rw [e, stq_xor, stq_shr]
  rw [nib, BitVec.xor_comm]

end Go.Proofs.Ytkfdgegmahbkiaa.Sim
namespace Go.Proofs.Ytkfdgegmahbkiaa.Sim
set_option linter.unusedSimpArgs false
set_option linter.unusedVariables false

theorem w_u32 {n : Int} (h0 : 0 ≤ n) (h1 : n < 4294967296) : IntKind.u32.wrap n = n := by
  simp [IntKind.wrap, IntKind.bits, IntKind.signed]; omega
/-- A register. -/
def rg (v : BitVec 32) : AV := .int .u32 (v.toNat : Int)
theorem bv_of (v : BitVec 32) : BitVec.ofInt 32 ((v.toNat : Nat) : Int) = v := by
  rw [BitVec.ofInt_natCast]; simp
theorem w_rg (v : BitVec 32) : IntKind.u32.wrap (v.toNat : Int) = v.toNat := w_u32 (by omega) (by have := v.isLt; omega)
theorem xor_rg (a b : BitVec 32) {α : Type} (f : AV → Option α) : aBin .xor (rg a) (rg b) f = f (rg (a ^^^ b)) := by
  have h : intBin .xor .u32 (a.toNat : Int) (b.toNat : Int) = some (rg (a ^^^ b)) := by
    show some (AV.int .u32 (IntKind.u32.wrap ((BitVec.ofInt 32 (a.toNat : Int) ^^^ BitVec.ofInt 32 (b.toNat : Int)).toNat : Int))) = _
    rw [bv_of, bv_of, w_rg]; rfl
  simp only [aBin, rg, if_true, h]
theorem and_rg (a b : BitVec 32) {α : Type} (f : AV → Option α) : aBin .and (rg a) (rg b) f = f (rg (a &&& b)) := by
  have h : intBin .and .u32 (a.toNat : Int) (b.toNat : Int) = some (rg (a &&& b)) := by
    show some (AV.int .u32 (IntKind.u32.wrap ((BitVec.ofInt 32 (a.toNat : Int) &&& BitVec.ofInt 32 (b.toNat : Int)).toNat : Int))) = _
    rw [bv_of, bv_of, w_rg]; rfl
  simp only [aBin, rg, if_true, h]
theorem shr_rg (a : BitVec 32) (c : Nat) (hc : c ≤ 32) (k : IntKind) {α : Type} (f : AV → Option α) : aShift .shr (rg a) (.int k (c : Int)) f = f (rg (a >>> c)) := by
  have e : min c 32 = c := by omega
  simp only [aShift, rg, if_neg (show ¬ (c : Int) < 0 by omega), Int.toNat_natCast, show IntKind.u32.bits = 32 from rfl, e]
  rw [Int.fdiv_eq_ediv_of_nonneg _ (Int.pow_nonneg (by omega)), BitVec.toNat_ushiftRight, Nat.shiftRight_eq_div_pow]
  congr 2
theorem not_rg (a : BitVec 32) {α : Type} (f : AV → Option α) : aUn .xor (rg a) f = f (rg (~~~ a)) := by
  show f (AV.int .u32 (IntKind.u32.wrap ((BitVec.ofInt 32 (if IntKind.u32.signed then -1 else IntKind.u32.max) ^^^ BitVec.ofInt 32 (a.toNat : Int)).toNat : Int))) = _
  rw [bv_of, show BitVec.ofInt 32 (if IntKind.u32.signed then -1 else IntKind.u32.max) = BitVec.allOnes 32 by decide, BitVec.allOnes_xor, w_rg]
  rfl
theorem rg_of {c : Int} (h0 : 0 ≤ c) (h1 : c < 4294967296) : AV.int .u32 c = rg (BitVec.ofInt 32 c) := by
  unfold rg
  rw [BitVec.toNat_ofInt]
  congr 1
  omega
theorem lsb_and (r : BitVec 32) : r &&& 1#32 = if r.getLsbD 0 then 1#32 else 0#32 := by
  apply BitVec.eq_of_getLsbD_eq
  intro i hi
  rw [BitVec.getLsbD_and]
  have h1 : (1#32 : BitVec 32).getLsbD i = decide (i = 0) := by
    rw [BitVec.getLsbD_one]; simp
  by_cases h : i = 0
  · subst h
    cases r.getLsbD 0 <;> simp
  · rw [h1, decide_eq_false h, Bool.and_false]
    cases r.getLsbD 0 <;> simp [h1, h]
theorem st_code (r : BitVec 32) {α : Type} (f : AV → Option α) : (aShift .shr (rg r) (AV.int .u64 1) fun v1 => aBin .and (rg r) (AV.int .u32 1) fun v2 => aUn .neg v2 fun v3 => aBin .and (AV.int .u32 3988292384) v3 fun v4 => aBin .xor v1 v4 f) = f (rg (st r)) := by
  have e1 : (AV.int .u32 1) = rg 1#32 := rfl
  have e2 : (AV.int .u32 3988292384) = rg polyB := rfl
  have s1 := shr_rg r 1 (by omega) .u64 (f := fun v1 => aBin .and (rg r) (AV.int .u32 1) fun v2 => aUn .neg v2 fun v3 => aBin .and (AV.int .u32 3988292384) v3 fun v4 => aBin .xor v1 v4 f)
  rw [show ((1 : Nat) : Int) = 1 from rfl] at s1
  rw [s1, e1, and_rg, lsb_and, e2]
  unfold st
  cases r.getLsbD 0
  · simp only [Bool.false_eq_true, if_false]
    have e3 : ∀ g : AV → Option α, aUn .neg (rg 0#32) g = g (rg 0#32) := fun g => rfl
    rw [e3, and_rg, xor_rg, BitVec.and_zero]
  · simp only [if_true]
    have e3 : ∀ g : AV → Option α, aUn .neg (rg 1#32) g = g (rg (BitVec.allOnes 32)) := fun g => rfl
    rw [e3, and_rg, xor_rg, BitVec.and_allOnes]

/-- What four bits do. -/
def nibTab : List (BitVec 32) := (List.range 16).map fun i => nib (BitVec.ofNat 32 i)
theorem nibTab_len : nibTab.length = 16 := by simp [nibTab]
theorem nibTab_at {i : Nat} (h : i < 16) : nibTab[i]? = some (nib (BitVec.ofNat 32 i)) := by
  simp [nibTab, h]
theorem idxA {l i : Nat} {kk : IntKind} (h : i < 16) {α : Type} (f : AV → Option α) : aIndexArr 16 1 (.ptr l 0 16) (.int kk (i : Int)) f = f (.ptr l i 16) := by
  simp only [aIndexArr]
  rw [if_pos (by omega), if_pos (by omega)]
  simp

theorem nib_inner (k : Nat) (R0 : Ar3) (x0 x1 x2 x4 : AV) (s : Store) : ∀ (n j : Nat) (r : BitVec 32), j ≤ 4 → 4 - j < n →
    F63.l0 k R0 n x0 x1 x2 (rg r) x4 (.int .i64 (j : Int)) s = F63.p2 k R0 x0 x1 x2 (rg (stq (4 - j) r)) x4 s
  | 0, j, r, _, hn => by omega
  | n + 1, j, r, hj, hn => by
    have hs : F63.l0 k R0 (n + 1) = fun x0 x1 x2 x3 x4 x9 s => F63.p6 k R0 (F63.l0 k R0 n) x0 x1 x2 x3 x4 x9 s := rfl
    rw [hs]
    clear hs
    simp only
    unfold F63.p6 F63.p5
    rw [lss_i]
    by_cases h : j < 4
    · rw [decide_eq_true (show (j : Int) < 4 by omega), if_t]
      unfold F63.p4 F63.p3
      rw [st_code, add_i, w_i64 (by omega) (by omega)]
      have := nib_inner k R0 x0 x1 x2 x4 s n (j + 1) (st r) (by omega) (by omega)
      rw [show (j : Int) + 1 = ((j + 1 : Nat) : Int) by omega, this, show 4 - j = (4 - (j + 1)) + 1 by omega]
      rfl
    · rw [decide_eq_false (show ¬ (j : Int) < 4 by omega), if_f, show 4 - j = 0 by omega]
      rfl
theorem nib_outer (k : Nat) (hk : 20 ≤ k) (a b : Nat) (hab : a < b) : ∀ (n i : Nat) (s : Store) (L : List (BitVec 32)) (la : List AV), s.get b = .cells (L.map rg) false → L.length = 16 → (∀ j, j < i → L[j]? = nibTab[j]?) → s.get a = .cells la false → la.length = 16 → i ≤ 16 → 16 - i < n →
    ∃ s', F63.l1 k n (.ptr a 0 16) (.ptr b 0 16) (.int .i64 (i : Int)) s = some (.agg (nibTab.map rg), s') ∧ s.next ≤ s'.next ∧ ∀ l, l ≠ a → l ≠ b → s'.get l = s.get l
  | 0, i, s, L, la, _, _, _, _, _, hi, hn => by omega
  | n + 1, i, s, L, la, hb, hL, hj, ha, hla, hi, hn => by
    have hs : F63.l1 k (n + 1) = fun x0 x1 x4 s => F63.p11 k (F63.l1 k n) x0 x1 x4 s := rfl
    rw [hs]
    clear hs
    simp only
    unfold F63.p11 F63.p10
    rw [lss_i]
    by_cases h : i < 16
    · rw [decide_eq_true (show (i : Int) < 16 by omega), if_t]
      unfold F63.p9 F63.p8 F63.p7
      have hc : IntKind.u32.wrap (i : Int) = (i : Int) := w_u32 (by omega) (by omega)
      rw [conv_i, hc, rg_of (by omega) (by omega)]
      have h0 := nib_inner k (F63.l1 k n) (.ptr a 0 16) (.ptr b 0 16) (.int .i64 (i : Int)) (.int .i64 (i : Int)) s k 0 (BitVec.ofInt 32 (i : Int)) (by omega) (by omega)
      rw [Int.natCast_zero] at h0
      rw [h0]
      unfold F63.p2 F63.p1
      rw [idxA h]
      have hst : ∀ f : Store → Rz, aStore 1 (.ptr b i 16) (rg (stq (4 - 0) (BitVec.ofInt 32 (i : Int)))) s f = f (s.set b (.cells ((L.set i (stq (4 - 0) (BitVec.ofInt 32 (i : Int)))).map rg) false)) := fun f => by
        simp [aStore, aCells, aOwn, hb, hL, putAll, show i + 1 ≤ 16 by omega, List.map_set, rg]
      rw [hst, add_i, w_i64 (by omega) (by omega), show (i : Int) + 1 = ((i + 1 : Nat) : Int) by omega]
      obtain ⟨s', g1, g2, g3⟩ := nib_outer k hk a b hab n (i + 1) (s.set b (.cells ((L.set i (stq (4 - 0) (BitVec.ofInt 32 (i : Int)))).map rg) false)) (L.set i (stq (4 - 0) (BitVec.ofInt 32 (i : Int)))) la (by rw [get_set, if_pos rfl]) (by simpa using hL) (fun j hj2 => by
        by_cases q : j = i
        · subst q
          rw [List.getElem?_set_self (by omega), nibTab_at h, BitVec.ofInt_natCast]; rfl
        · rw [List.getElem?_set_ne (by omega)]; exact hj j (by omega)) (by rw [get_set, if_neg (by omega)]; exact ha) hla (by omega) (by omega)
      exact ⟨s', g1, g2, fun l h1 h2 => by rw [g3 l h1 h2, get_set, if_neg h2]⟩
    · rw [decide_eq_false (show ¬ (i : Int) < 16 by omega), if_f]
      unfold F63.p0
      have he : L = nibTab := by
        apply List.ext_getElem?
        intro j
        by_cases q : j < i
        · exact hj j q
        · rw [List.getElem?_eq_none (by omega), List.getElem?_eq_none (by rw [nibTab_len]; omega)]
      subst he
      rw [rld_all hb (by simpa using hL), rst_all ha hla (by simpa using hL), rld_all (s := s.set a (.cells (nibTab.map rg) false)) (cs := nibTab.map rg) (ro := false) (by rw [get_set, if_pos rfl]) (by simpa using hL)]
      exact ⟨_, rfl, Nat.le_refl _, fun l h1 h2 => by rw [get_set, if_neg h1]⟩
theorem nibbles_run (s : Store) (k : Nat) (hk : 20 ≤ k) : ∃ s', rn (k + 1) 63 [] s = some (.agg (nibTab.map rg), s') ∧ Ext s s' := by
  rw [F63.eq]
  unfold F63.f F63.p14
  rw [new_s]
  unfold F63.p13
  rw [new_s]
  unfold F63.p12
  have hz : ([AV.int .u32 0, AV.int .u32 0, AV.int .u32 0, AV.int .u32 0, AV.int .u32 0, AV.int .u32 0, AV.int .u32 0, AV.int .u32 0, AV.int .u32 0, AV.int .u32 0, AV.int .u32 0, AV.int .u32 0, AV.int .u32 0, AV.int .u32 0, AV.int .u32 0, AV.int .u32 0] : List AV) = (List.replicate 16 0#32).map rg := rfl
  rw [hz]
  obtain ⟨s', g1, g2, g3⟩ := nib_outer k hk s.next (s.next + 1) (Nat.lt_succ_self _) k 0 ((s.push (.cells ((List.replicate 16 0#32).map rg) false)).push (.cells ((List.replicate 16 0#32).map rg) false)) (List.replicate 16 0#32) ((List.replicate 16 0#32).map rg) (by simp only [get_push, next_push, if_true]) rfl (fun j hj => by omega) (by simp [get_push, next_push]) rfl (by omega) (by omega)
  rw [Int.natCast_zero] at g1
  refine ⟨s', g1, ⟨?_, fun l hl => ?_⟩⟩
  · simp only [next_push] at g2; omega
  · rw [g3 l (by omega) (by omega), get_push, if_neg (by simp only [next_push]; omega), get_push, if_neg (by omega)]

/-- Two times four bits at once: a byte. -/
theorem byte_step (r : BitVec 32) (c : Int) : ((r ^^^ BitVec.ofInt 32 c) >>> 4 ^^^ nib ((r ^^^ BitVec.ofInt 32 c) &&& 15#32)) >>> 4 ^^^ nib (((r ^^^ BitVec.ofInt 32 c) >>> 4 ^^^ nib ((r ^^^ BitVec.ofInt 32 c) &&& 15#32)) &&& 15#32) = stB r c := by
  rw [nib_step, nib_step, ← stq_add]; rfl
theorem tab_ld {s : Store} {t : Nat} (ht : s.get t = .cells (nibTab.map rg) false) (x : BitVec 32) {α : Type} (f : AV → Option α) : (aIndexArr 16 1 (.ptr t 0 16) (rg (x &&& 15#32)) fun v => aLoad1 v s f) = f (rg (nib (x &&& 15#32))) := by
  have hl : (x &&& 15#32).toNat < 16 := by
    rw [BitVec.toNat_and]
    exact Nat.lt_of_le_of_lt Nat.and_le_right (by decide)
  unfold rg
  rw [idxA hl, load_1 (v := rg (nib (x &&& 15#32))) ht (by simp [nibTab_len])]
  · rfl
  · rw [List.getElem?_map, nibTab_at hl, BitVec.ofNat_toNat]; simp
theorem sum_bytes (k : Nat) (R0 : Ar5) {s : Store} {t : Nat} {bv x10 x11 x12 : AV} {xs : List Int} (hv : IsV s bv .u8 xs) (hu : ∀ x ∈ xs, 0 ≤ x ∧ x < 256) (hb : xs.length ≤ 1000000) (ht : s.get t = .cells (nibTab.map rg) false) : ∀ (n i : Nat) (r : BitVec 32), i ≤ xs.length → xs.length - i < n →
    F54.l0 k R0 n (.ptr t 0 16) (rg r) x10 x11 x12 bv (.int .i64 xs.length) (.int .i64 (i : Int)) s = F54.p1 k R0 (.ptr t 0 16) (rg (crcB r (xs.drop i))) x10 x11 x12 s
  | 0, i, r, _, hn => by omega
  | n + 1, i, r, hi, hn => by
    have hs : F54.l0 k R0 (n + 1) = fun x3 x4 x10 x11 x12 x16 x17 x18 s => F54.p5 k R0 (F54.l0 k R0 n) x3 x4 x10 x11 x12 x16 x17 x18 s := rfl
    rw [hs]
    clear hs
    simp only
    unfold F54.p5 F54.p4
    rw [lss_i]
    by_cases h : i < xs.length
    · rw [decide_eq_true (show (i : Int) < (xs.length : Int) by omega), if_t]
      unfold F54.p3 F54.p2
      obtain ⟨p, p1, p2⟩ := atV hv (i := (i : Int)) (by omega) (by omega)
      have hx := hu _ (List.getElem_mem h)
      have hd : xs.getD ((i : Int)).toNat 0 = xs[i] := by simp [h]
      have s4 : ∀ (z : BitVec 32) (f : AV → Rz), aShift .shr (rg z) (.int .u64 4) f = f (rg (z >>> 4)) := fun z f => shr_rg z 4 (by omega) .u64 f
      have e15 : (AV.int .u32 15) = rg 15#32 := rfl
      rw [p1, p2, hd, conv_i, w_u32 hx.1 (by omega), rg_of hx.1 (by omega), xor_rg, s4, e15, and_rg, tab_ld ht, xor_rg, s4, and_rg, tab_ld ht, xor_rg, byte_step, add_i, w_i64 (by omega) (by omega), show (i : Int) + 1 = ((i + 1 : Nat) : Int) by omega, sum_bytes k R0 hv hu hb ht n (i + 1) _ (by omega) (by omega), List.drop_eq_getElem_cons h]
      rfl
    · rw [decide_eq_false (show ¬ (i : Int) < (xs.length : Int) by omega), if_f, List.drop_eq_nil_of_le (by omega)]
      rfl
theorem crcB_app (r : BitVec 32) (a b : List Int) : crcB r (a ++ b) = crcB (crcB r a) b := List.foldl_append
theorem sum_rows (k : Nat) {s : Store} {t : Nat} {lv : AV} {rows : List (List Int)} (hv : IsVV s lv rows) (hu : ∀ r ∈ rows, ∀ x ∈ r, 0 ≤ x ∧ x < 256) (hb : ∀ r ∈ rows, r.length < k) (hk : k ≤ 1000001) (hrl : rows.length ≤ 100) (ht : s.get t = .cells (nibTab.map rg) false) : ∀ (n i : Nat) (r : BitVec 32), i ≤ rows.length → rows.length - i < n →
    F54.l1 k n (.ptr t 0 16) (rg r) lv (.int .i64 rows.length) (.int .i64 (i : Int)) s = some (rg (~~~ crcB r (rows.drop i).flatten), s)
  | 0, i, r, _, hn => by omega
  | n + 1, i, r, hi, hn => by
    have hs : F54.l1 k (n + 1) = fun x3 x4 x10 x11 x12 s => F54.p9 k (F54.l1 k n) x3 x4 x10 x11 x12 s := rfl
    rw [hs]
    clear hs
    simp only
    unfold F54.p9 F54.p8
    rw [lss_i]
    by_cases h : i < rows.length
    · rw [decide_eq_true (show (i : Int) < (rows.length : Int) by omega), if_t]
      unfold F54.p7 F54.p6
      obtain ⟨p, hh, p1, p2, p3⟩ := atVV hv h
      have hm := List.getElem_mem h
      rw [p1, p2 (Ext.refl s), lenV p3]
      have := sum_bytes k (F54.l1 k n) (x10 := lv) (x11 := .int .i64 rows.length) (x12 := .int .i64 (i : Int)) p3 (hu _ hm) (by have := hb _ hm; omega) ht k 0 r (by omega) (by have := hb _ hm; omega)
      rw [Int.natCast_zero] at this
      rw [this]
      unfold F54.p1
      rw [add_i, w_i64 (by omega) (by omega), show (i : Int) + 1 = ((i + 1 : Nat) : Int) by omega, sum_rows k hv hu hb hk hrl ht n (i + 1) _ (by omega) (by omega), List.drop_zero, List.drop_eq_getElem_cons h, List.flatten_cons, crcB_app]
    · rw [decide_eq_false (show ¬ (i : Int) < (rows.length : Int) by omega), if_f, List.drop_eq_nil_of_le (by omega)]
      unfold F54.p0
      rw [not_rg]; rfl
theorem sum_run {s : Store} {lv : AV} {rows : List (List Int)} (hv : IsVV s lv rows) (hu : ∀ r ∈ rows, ∀ x ∈ r, 0 ≤ x ∧ x < 256) (k : Nat) (hk : 110 ≤ k) (hb : ∀ r ∈ rows, r.length < k) (hk2 : k ≤ 1000000) (hrl : rows.length ≤ 100) : ∃ s', rn (k + 2) 54 [lv] s = some (rg (sumB rows.flatten), s') ∧ Ext s s' := by
  rw [F54.eq]
  unfold F54.f F54.p13 F54.p12
  obtain ⟨s1, k1, e1⟩ := nibbles_run s k (by omega)
  rw [k1, bnd]
  simp only
  rw [new_all (s := s1) (n := 16) rfl (by simp [nibTab_len])]
  have e2 := Ext.push s1 (.cells (nibTab.map rg) false)
  unfold F54.p11 F54.p10
  have hv2 := hv.ext (e1.trans e2)
  rw [lenVV hv2]
  have := sum_rows (k + 1) (t := s1.next) hv2 hu (fun r hr => by have := hb r hr; omega) (by omega) hrl (by rw [get_push, if_pos rfl]) (k + 1) 0 (~~~ 0#32) (by omega) (by omega)
  rw [Int.natCast_zero] at this
  refine ⟨_, this.trans ?_, e1.trans e2⟩
  rfl

theorem foot_run (v : BitVec 32) (s : Store) (k : Nat) : rn (k + 1) 53 [rg v] s = some (.sl s.next 0 4 1 4, s.push (.cells ((footB v).map (.int .u8)) false)) := by
  rw [F53.eq]
  unfold F53.f F53.p0
  have s1 : ∀ (f : AV → Rz), aShift .shr (rg v) (.int .u64 8) f = f (rg (v >>> 8)) := fun f => shr_rg v 8 (by omega) .u64 f
  have s2 : ∀ (f : AV → Rz), aShift .shr (rg v) (.int .u64 16) f = f (rg (v >>> 16)) := fun f => shr_rg v 16 (by omega) .u64 f
  have s3 : ∀ (f : AV → Rz), aShift .shr (rg v) (.int .u64 24) f = f (rg (v >>> 24)) := fun f => shr_rg v 24 (by omega) .u64 f
  have hc : ∀ (w : BitVec 32) (f : AV → Rz), aConvInt .u8 (rg w) f = f (.int .u8 ((w.toNat % 256 : Nat) : Int)) := fun w f => by
    unfold rg
    rw [conv_i, byte_of]; rfl
  have hs : ∀ (w : BitVec 32) (c : Nat), (w >>> c).toNat = w.toNat / 2 ^ c := fun w c => by rw [BitVec.toNat_ushiftRight, Nat.shiftRight_eq_div_pow]
  rw [hc, s1, hc, s2, hc, s3, hc, hs, hs, hs]
  rfl
end Go.Proofs.Ytkfdgegmahbkiaa.Sim
namespace Go.Proofs.Ytkfdgegmahbkiaa.Sim
set_option linter.unusedSimpArgs false
set_option linter.unusedVariables false

theorem mark_len (k : Nat) {s : Store} {lv : AV} {rows : List (List Int)} (hv : IsVV s lv rows) (hrl : rows.length ≤ 100) (hb : rows.flatten.length ≤ 1000000) : ∀ (n i : Nat), i ≤ rows.length → rows.length - i < n →
    F30.l1 k n lv (.int .i64 ((4 + (rows.take i).flatten.length : Nat) : Int)) lv (.int .i64 rows.length) (.int .i64 (i : Int)) s = F30.p6 k lv (.int .i64 ((4 + rows.flatten.length : Nat) : Int)) s
  | 0, i, _, hn => by omega
  | n + 1, i, hi, hn => by
    have hs : F30.l1 k (n + 1) = fun x0 x3 x9 x10 x11 s => F30.p10 k (F30.l1 k n) x0 x3 x9 x10 x11 s := rfl
    rw [hs]
    clear hs
    simp only
    unfold F30.p10 F30.p9
    rw [lss_i]
    by_cases h : i < rows.length
    · rw [decide_eq_true (show (i : Int) < (rows.length : Int) by omega), if_t]
      unfold F30.p8 F30.p7
      obtain ⟨p, hh, p1, p2, p3⟩ := atVV hv h
      have hle : (rows.take (i + 1)).flatten.length = (rows.take i).flatten.length + rows[i].length := by
        rw [List.take_succ_eq_append_getElem h, List.flatten_append]; simp
      have hlt : (rows.take (i + 1)).flatten.length ≤ rows.flatten.length := by
        conv => rhs; rw [← List.take_append_drop (i + 1) rows, List.flatten_append, List.length_append]
        omega
      have hw1 : IntKind.i64.wrap (((4 + (rows.take i).flatten.length : Nat) : Int) + (rows[i].length : Int)) = ((4 + (rows.take (i + 1)).flatten.length : Nat) : Int) := by
        rw [w_i64 (by omega) (by omega)]; omega
      have hw2 : IntKind.i64.wrap ((i : Int) + 1) = ((i + 1 : Nat) : Int) := by rw [w_i64 (by omega) (by omega)]; omega
      rw [p1, p2 (Ext.refl s), lenV p3, add_i, hw1, add_i, hw2]
      exact mark_len k hv hrl hb n (i + 1) (by omega) (by omega)
    · rw [decide_eq_false (show ¬ (i : Int) < (rows.length : Int) by omega), if_f, List.take_of_length_le (by omega)]
theorem mark_loop (k : Nat) {s0 : Store} {lv : AV} {rows : List (List Int)} (hv : IsVV s0 lv rows) (hrl : rows.length ≤ 100) (hb : rows.flatten.length ≤ 1000000) : ∀ (n i : Nat) (s : Store) (v : AV), Ext s0 s → OwnV s v .u8 (rows.take i).flatten s0.next → i ≤ rows.length → rows.length - i < n →
    ∃ v' s', F30.l0 k n lv v lv (.int .i64 rows.length) (.int .i64 (i : Int)) s = F30.p0 k lv v' s' ∧ OwnV s' v' .u8 rows.flatten s0.next ∧ Ext s0 s'
  | 0, i, _, _, _, _, _, hn => by omega
  | n + 1, i, s, v, e, ho, hi, hn => by
    have hs : F30.l0 k (n + 1) = fun x0 x6 x22 x23 x24 s => F30.p4 k (F30.l0 k n) x0 x6 x22 x23 x24 s := rfl
    rw [hs]
    clear hs
    simp only
    unfold F30.p4 F30.p3
    rw [lss_i]
    by_cases h : i < rows.length
    · rw [decide_eq_true (show (i : Int) < (rows.length : Int) by omega), if_t]
      unfold F30.p2 F30.p1
      obtain ⟨p, hh, p1, p2, p3⟩ := atVV hv h
      have hle : (rows.take (i + 1)).flatten = (rows.take i).flatten ++ rows[i] := by
        rw [List.take_succ_eq_append_getElem h, List.flatten_append]; simp
      have hlt : (rows.take (i + 1)).flatten.length ≤ rows.flatten.length := by
        conv => rhs; rw [← List.take_append_drop (i + 1) rows, List.flatten_append, List.length_append]
        omega
      rw [hle, List.length_append] at hlt
      obtain ⟨v2, s2, j1, j2, j3, _⟩ := appV (bytes := 1) ho e.next (p3.ext e) (by omega) (by omega)
      have hw2 : IntKind.i64.wrap ((i : Int) + 1) = ((i + 1 : Nat) : Int) := by rw [w_i64 (by omega) (by omega)]; omega
      rw [p1, p2 e, j1, add_i, hw2]
      exact mark_loop k hv hrl hb n (i + 1) s2 v2 (e.lo' j3) (by rw [hle]; exact j2) (by omega) (by omega)
    · rw [decide_eq_false (show ¬ (i : Int) < (rows.length : Int) by omega), if_f]
      rw [List.take_of_length_le (by omega)] at ho
      exact ⟨v, s, rfl, ho, e⟩
theorem mk_cap {n : Nat} (h : n ≤ 4294967296) (t : Store) {α : Type} (f : AV → Store → Option α) : aMakeSlice [AV.int .u8 0] 1 1 (.int .i64 0) (.int .i64 (n : Int)) t f = f (.sl t.next 0 0 1 0) (t.push (.cells [] false)) := by
  simp only [aMakeSlice]
  rw [if_pos ⟨by omega, by omega, by omega, by omega⟩]
  rfl
theorem own_empty (s : Store) : OwnV (s.push (.cells [] false)) (.sl s.next 0 0 1 0) .u8 [] s.next := .inr ⟨s.next, rfl, Nat.le_refl _, Nat.lt_succ_self _, by rw [get_push, if_pos rfl]; rfl⟩
theorem isv_foot (s : Store) (v : BitVec 32) : IsV (s.push (.cells ((footB v).map (.int .u8)) false)) (.sl s.next 0 4 1 4) .u8 (footB v) := .inr ⟨s.next, 0, footB v, false, rfl, Nat.lt_succ_self _, by rw [get_push, if_pos rfl], by simp [footB], by simp [footB]⟩
theorem mark_run {s : Store} {lv : AV} {rows : List (List Int)} (hv : IsVV s lv rows) (hu : ∀ r ∈ rows, ∀ x ∈ r, 0 ≤ x ∧ x < 256) (k : Nat) (hk : 110 ≤ k) (hb : ∀ r ∈ rows, r.length < k) (hk2 : k ≤ 1000000) (hrl : rows.length ≤ 100) (hfl : rows.flatten.length ≤ 1000000) : ∃ v' s', rn (k + 3) 30 [lv] s = some (v', s') ∧ OwnV s' v' .u8 (markB rows.flatten) s.next ∧ Ext s s' := by
  rw [F30.eq]
  unfold F30.f F30.p13 F30.p12 F30.p11
  rw [lenVV hv]
  have h1 := mark_len (k + 2) hv hrl hfl (k + 2) 0 (by omega) (by omega)
  rw [Int.natCast_zero, List.take_zero] at h1
  rw [show (4 : Int) = ((4 + ([] : List (List Int)).flatten.length : Nat) : Int) from rfl, h1]
  unfold F30.p6
  rw [mk_cap (by omega)]
  unfold F30.p5
  rw [lenVV hv]
  obtain ⟨v1, s1, k1, o1, e1⟩ := mark_loop (k + 2) hv hrl hfl (k + 2) 0 _ _ (Ext.push s _) (own_empty s) (by omega) (by omega)
  rw [Int.natCast_zero] at k1
  rw [k1]
  unfold F30.p0
  obtain ⟨s2, k2, e2⟩ := sum_run (hv.ext e1) hu k hk hb hk2 hrl
  rw [k2, bnd]
  simp only
  rw [foot_run, bnd]
  simp only
  have e3 := Ext.push s2 (.cells ((footB (sumB rows.flatten)).map (.int .u8)) false)
  obtain ⟨v', s', j1, j2, j3, _⟩ := appV (bytes := 1) ((o1.ext e2).ext e3) (Nat.le_trans e1.next (Nat.le_trans e2.next e3.next)) (isv_foot s2 (sumB rows.flatten)) (by rw [footB_len]; omega) (by omega)
  rw [j1]
  exact ⟨v', s', rfl, j2, ((e1.trans e2).trans e3).lo' j3⟩

/-- The bytes ahead of a sum that is theirs; the error's number. -/
def fitsI (xs : List Int) : List Int × Int := if xs.length < 4 then ([], 2) else if footB (sumB (xs.take (xs.length - 4))) = xs.drop (xs.length - 4) then (xs.take (xs.length - 4), 0) else ([], 5)
theorem isvv_one {s : Store} {h : AV} {r : List Int} (hr : IsV s h .u8 r) : IsVV (s.push (.cells [h] false)) (.sl s.next 0 1 1 1) [r] :=
  ⟨[h], .inr ⟨s.next, false, rfl, Nat.lt_succ_self _, by rw [get_push, if_pos rfl]; rfl⟩, rfl, fun i a b h1 h2 => by
    cases i with
    | zero => cases h1; cases h2; exact hr.ext (Ext.push _ _)
    | succ i => simp at h1⟩
theorem cellsW {s : Store} {v : AV} {k : IntKind} {xs : List Int} (h : IsV s v k xs) {α : Type} (f : List AV → Option α) : aCells v f = f [v] := by
  rcases h with ⟨q, _⟩ | ⟨l, off, ys, ro, q, _⟩ <;> subst q <;> rfl
theorem build_v {s : Store} {v : AV} {k : IntKind} {xs : List Int} (h : IsV s v k xs) {α : Type} (f : List AV → Option α) : aBuild [(0, 1, v)] [AV.nilsl] f = f [v] := by
  rcases h with ⟨q, _⟩ | ⟨l, off, ys, ro, q, _⟩ <;> subst q <;> rfl
theorem fits_run {s : Store} {bv : AV} {xs : List Int} (hv : IsV s bv .u8 xs) (hu : ∀ x ∈ xs, 0 ≤ x ∧ x < 256) (k : Nat) (hk : 110 ≤ k) (hb : xs.length < k) (hk2 : k ≤ 1000000) : ∃ v' s', rn (k + 3) 41 [bv] s = some (.tuple [v', .int .i64 (fitsI xs).2], s') ∧ IsV s' v' .u8 (fitsI xs).1 ∧ Ext s s' ∧ (∀ i b c d f, v' = .sl i b c d f → s.next ≤ i) := by
  rw [F41.eq]
  unfold F41.f F41.p5 F41.p4 F41.p3 fitsI
  rw [lenV hv, sub_i, w_i64 (by omega) (by omega), lss_i]
  by_cases h : xs.length < 4
  · rw [decide_eq_true (show (xs.length : Int) - 4 < 0 by omega), if_t, if_pos h]
    exact ⟨_, s, rfl, .inl ⟨rfl, rfl⟩, Ext.refl _, fun i b c d f q => by cases q⟩
  · rw [decide_eq_false (show ¬ (xs.length : Int) - 4 < 0 by omega), if_f, if_neg h]
    unfold F41.p2
    have hn : (xs.length : Int) - 4 = ((xs.length - 4 : Nat) : Int) := by omega
    rw [hn]
    obtain ⟨v1, a1, _, _, a2, _⟩ := sliceV hv (a := 0) (b := xs.length - 4) (by omega) (by omega)
    obtain ⟨v2, b1, _, _, _, b2⟩ := sliceV hv (a := xs.length - 4) (b := xs.length) (by omega) (by omega)
    have a2 := fun {α : Type} => a2 rfl (α := α)
    have b2 := fun {α : Type} => b2 rfl (α := α)
    have t1 : (xs.drop 0).take (xs.length - 4 - 0) = xs.take (xs.length - 4) := by simp
    have t2 : (xs.drop (xs.length - 4)).take (xs.length - (xs.length - 4)) = xs.drop (xs.length - 4) := by
      rw [List.take_of_length_le]; simp
    rw [t1] at a1
    rw [t2] at b1
    have e1 := Ext.push s (.cells [v1] false)
    have hut : ∀ x ∈ xs.take (xs.length - 4), 0 ≤ x ∧ x < 256 := fun x hx => hu x (List.mem_of_mem_take hx)
    have hud : ∀ x ∈ xs.drop (xs.length - 4), 0 ≤ x ∧ x < 256 := fun x hx => hu x (List.mem_of_mem_drop hx)
    obtain ⟨s2, k2, e2⟩ := sum_run (isvv_one a1) (fun r hr => by rw [List.mem_singleton.1 hr]; exact hut) k hk (fun r hr => by rw [List.mem_singleton.1 hr]; simp; omega) hk2 (by simp)
    have hfl : ([xs.take (xs.length - 4)] : List (List Int)).flatten = xs.take (xs.length - 4) := by simp
    rw [hfl] at k2
    have e3 := Ext.push s2 (.cells ((footB (sumB (xs.take (xs.length - 4)))).map (.int .u8)) false)
    have hb1 : ∀ {α : Type} (f : List AV → Option α), aBuild [(0, 1, v1)] [AV.nilsl] f = f [v1] := fun f => build_v a1 f
    simp only [bnd, guard_tt, guard_ff, guard_tf, guard_ft, pick_t, pick_f, if_t, if_f, add_i, sub_i, lss_i, leq_i, gtr_i, geq_i, eql_i, neq_i, min_i, max_i, conv_i, len_sl, len_nil, not_b, cells_agg, new_s, fld_p, nil_p, a2, hb1, k2, foot_run, strV (isv_foot s2 _), b2, strV (b1.ext ((e1.trans e2).trans e3)), strV (b1.ext (e1.trans e2)), strV (b1.ext e1), strV b1, aSame_self, ne_str (footB_u8 _) hud]
    unfold F41.p1
    by_cases hq : footB (sumB (xs.take (xs.length - 4))) = xs.drop (xs.length - 4)
    · rw [if_pos hq, decide_eq_true hq, Bool.not_true, if_f]
      unfold F41.p0
      rw [build_0, a2]
      obtain ⟨s', c1, c2, c3, c4⟩ := copyV (bytes := 1) (a1.ext ((e1.trans e2).trans e3)) (by simp; omega) (by omega)
      rw [c1]
      have o : OwnV s' _ .u8 (xs.take (xs.length - 4)) 0 := .inr ⟨_, rfl, Nat.zero_le _, c3, c2⟩
      refine ⟨_, s', rfl, o.is, ((e1.trans e2).trans e3).trans c4, fun i b c d f q => ?_⟩
      cases q
      exact Nat.le_trans e1.next (Nat.le_trans e2.next e3.next)
    · rw [if_neg hq, decide_eq_false hq, Bool.not_false, if_t]
      exact ⟨_, _, rfl, .inl ⟨rfl, rfl⟩, (e1.trans e2).trans e3, fun i b c d f q => by cases q⟩

/-! ### the document's -/
theorem stB_bits (r : BitVec 32) {c : Int} (h0 : 0 ≤ c) (h1 : c < 256) : (bitsN 8 (BitVec.ofInt 32 c)).foldl stb r = stB r c := by
  unfold stB
  rw [stq_bits]
  have : (BitVec.ofInt 32 c) >>> 8 = 0#32 := by
    apply BitVec.eq_of_toNat_eq
    rw [BitVec.toNat_ushiftRight, BitVec.toNat_ofInt, Nat.shiftRight_eq_div_pow]
    simp only [BitVec.toNat_ofNat]
    omega
  rw [this, BitVec.xor_zero]
theorem take_foot {xs : List Int} (h : ¬ xs.length < 4) : markB (xs.take (xs.length - 4)) = xs ↔ footB (sumB (xs.take (xs.length - 4))) = xs.drop (xs.length - 4) := by
  unfold markB
  constructor
  · intro q
    have := congrArg (List.drop (xs.length - 4)) q
    rwa [List.drop_append_of_le_length (by simp), List.drop_eq_nil_of_le (by simp), List.nil_append] at this
  · intro q
    rw [q, List.take_append_drop]
theorem markB_u8 {xs : List Int} (hu : ∀ x ∈ xs, 0 ≤ x ∧ x < 256) : ∀ x ∈ markB xs, 0 ≤ x ∧ x < 256 := fun x hx => by
  rcases List.mem_append.1 hx with h | h
  · exact hu x h
  · exact footB_u8 _ x h
end Go.Proofs.Ytkfdgegmahbkiaa.Sim
namespace Go.Proofs.Ytkfdgegmahbkiaa.Sim
set_option linter.unusedSimpArgs false
set_option linter.unusedVariables false

/-- A frame. -/
structure FI where
  kd : Int
  src : Int
  dst : Int
  idf : Int
  ids : Int
  seq : Int
  at_ : Int
  of_ : Int
  size : Int
  inst : Int
  round : Int
  est : List Rn
  aux : List Rn
  done : List Int
  held : List Int
  data : List Int
  deriving DecidableEq
def FI.zero : FI := ⟨0, 0, 0, 0, 0, 0, 0, 0, 0, 0, 0, [], [], [], [], []⟩
def fcl (x : FI) (e a d h b : AV) : List AV := [.int .u8 x.kd, .int .u8 x.src, .int .u8 x.dst, .int .u8 x.idf, .int .u64 x.ids, .int .u64 x.seq, .int .u32 x.at_, .int .u32 x.of_, .int .u32 x.size, .int .u64 x.inst, .int .u64 x.round, e, a, d, h, b]
theorem fcl_len (x : FI) (e a d h b : AV) : (fcl x e a d h b).length = 16 := rfl

inductive WOp where
  | num (j : Nat)
  | small (j : Nat)
  | who (j : Nat)
  | data (j : Nat)
  | runs (j : Nat)
  | nums (j : Nat)
  deriving DecidableEq
noncomputable def callOp (sv : AV) (F k : Nat) (o : WOp) (s : Store) : Option (AV × Store) :=
  match o with
  | .num j => aInvoke Try.prog (rn k) sv "unison/wire.num" [.ptr F j 16] s fun v s => some (v, s)
  | .small j => aInvoke Try.prog (rn k) sv "unison/wire.small" [.ptr F j 16] s fun v s => some (v, s)
  | .who j => aInvoke Try.prog (rn k) sv "unison/wire.who" [.ptr F j 16] s fun v s => some (v, s)
  | .data j => aInvoke Try.prog (rn k) sv "unison/wire.data" [.ptr F j 16] s fun v s => some (v, s)
  | .runs j => rn k 48 [sv, .ptr F j 16] s
  | .nums j => rn k 49 [sv, .ptr F j 16] s
noncomputable def runOps (sv : AV) (F : Nat) : List (Nat × WOp) → Store → Option (AV × Store)
  | [], s => some (.tuple [], s)
  | (k, o) :: r, s => (callOp sv F k o s).bind fun q => runOps sv F r q.2

/-- What a kind's fields are. -/
def wopsOf (kd : Int) : List WOp :=
  if kd = 1 then [.num 5, .who 3, .num 4, .small 6, .small 7, .small 8, .data 15]
  else if kd = 4 then [.who 3, .num 4, .small 6, .small 7, .small 8, .data 15]
  else if kd = 2 ∨ kd = 5 ∨ kd = 10 then [.num 5]
  else if kd = 3 then [.who 3, .num 4, .small 6]
  else if kd = 6 then [.num 9, .num 10, .runs 11]
  else if kd = 7 then [.num 9, .num 10, .runs 11, .runs 12]
  else if kd = 8 then [.num 9, .runs 11]
  else if kd = 9 then [.num 9, .nums 13, .nums 14]
  else []

theorem nil_m {n : String} {t : Nat} {v : AV} (h : methT n t = true) {α : Type} (f : AV → Option α) : aNilCheck (.meth n (.iface t v)) f = f (.meth n (.iface t v)) := by
  simp only [aNilCheck, h, if_true]
structure MethAll (t : Nat) : Prop where
  num : methT "unison/wire.num" t = true
  small : methT "unison/wire.small" t = true
  who : methT "unison/wire.who" t = true
  data : methT "unison/wire.data" t = true
  many : methT "unison/wire.many" t = true

section
variable {t : Nat} {v : AV} {F : Nat}
theorem id_eq (hm : MethAll t) (k : Nat) (s : Store) : rn (k + 1) 47 [.iface t v, .ptr F 3 16] s = runOps (.iface t v) F [(k, .who 3), (k, .num 4)] s := by
  rw [F47.eq]
  unfold F47.f F47.p1 F47.p0
  simp only [bnd, nil_p, fld_p, nil_m hm.num, nil_m hm.who]
  rfl
theorem runOps_app (sv : AV) (F : Nat) : ∀ (a b : List (Nat × WOp)) (s : Store), runOps sv F (a ++ b) s = (runOps sv F a s).bind fun q => runOps sv F b q.2
  | [], b, s => rfl
  | (k, o) :: a, b, s => by
    show (callOp sv F k o s).bind (fun q => runOps sv F (a ++ b) q.2) = ((callOp sv F k o s).bind fun q => runOps sv F a q.2).bind fun q => runOps sv F b q.2
    cases callOp sv F k o s with
    | none => rfl
    | some q => exact runOps_app sv F a b q.2
theorem piece_eq (hm : MethAll t) (k : Nat) (s : Store) : rn (k + 2) 46 [.iface t v, .ptr F 0 16] s = runOps (.iface t v) F [(k, .who 3), (k, .num 4), (k + 1, .small 6), (k + 1, .small 7), (k + 1, .small 8), (k + 1, .data 15)] s := by
  rw [F46.eq]
  unfold F46.f F46.p4 F46.p3 F46.p2 F46.p1 F46.p0
  simp only [bnd, nil_p, fld_p, nil_m hm.small, nil_m hm.data, Nat.zero_add, id_eq hm]
  rw [show [(k, WOp.who 3), (k, WOp.num 4), (k + 1, WOp.small 6), (k + 1, WOp.small 7), (k + 1, WOp.small 8), (k + 1, WOp.data 15)] = [(k, WOp.who 3), (k, WOp.num 4)] ++ [(k + 1, WOp.small 6), (k + 1, WOp.small 7), (k + 1, WOp.small 8), (k + 1, WOp.data 15)] from rfl, runOps_app]
  rfl

variable {σ : Type} {I : σ → List WOp → Store → Prop} {kd : Int} {stepA : WOp → σ → σ}
theorem runOps_run (hstep : ∀ op rem st s k, 1200 ≤ k → k ≤ 80000 → I st (op :: rem) s → ∃ w s', callOp (.iface t v) F k op s = some (w, s') ∧ I (stepA op st) rem s') : ∀ (L : List (Nat × WOp)) (rem : List WOp) (st : σ) (s : Store), (∀ p ∈ L, 1200 ≤ p.1 ∧ p.1 ≤ 80000) → I st (L.map (·.2) ++ rem) s → ∃ s', runOps (.iface t v) F L s = some (.tuple [], s') ∧ I (L.foldl (fun st p => stepA p.2 st) st) rem s'
  | [], rem, st, s, _, h => ⟨s, rfl, h⟩
  | (k, o) :: L, rem, st, s, hL, h => by
    obtain ⟨h1, h2⟩ := hL (k, o) List.mem_cons_self
    obtain ⟨w, s1, c1, i1⟩ := hstep o (L.map (·.2) ++ rem) st s k h1 h2 h
    obtain ⟨s', c2, i2⟩ := runOps_run hstep L rem (stepA o st) s1 (fun p hp => hL p (List.mem_cons_of_mem _ hp)) i1
    refine ⟨s', ?_, i2⟩
    show (callOp _ F k o s).bind _ = _
    rw [c1]; exact c2

theorem visit_run (hm : MethAll t) (hk : ∀ st rem s, I st rem s → ∃ cs, s.get F = .cells cs false ∧ cs.length = 16 ∧ cs[0]? = some (.int .u8 kd))
    (hstep : ∀ op rem st s k, 1200 ≤ k → k ≤ 80000 → I st (op :: rem) s → ∃ w s', callOp (.iface t v) F k op s = some (w, s') ∧ I (stepA op st) rem s') (k : Nat) (h1 : 1200 ≤ k) (h2 : k ≤ 79990) (st : σ) (s : Store) (h : I st (wopsOf kd) s) :
    ∃ s', rn (k + 3) 19 [.ptr F 0 16, .iface t v] s = some (.tuple [], s') ∧ I ((wopsOf kd).foldl (fun st op => stepA op st) st) [] s' := by
  rw [F19.eq]
  unfold F19.f F19.p28
  obtain ⟨cs, g1, g2, g3⟩ := hk st _ s h
  have ld : ∀ f : AV → Rz, aLoad1 (.ptr F 0 16) s f = f (.int .u8 kd) := fun f => load_1 g1 g2 g3
  simp only [nil_p, fld_p, Nat.add_zero, ld]
  unfold F19.p27 F19.p26
  rw [eql_i]
  by_cases c1 : kd = 1
  · subst c1
    rw [show (((1 : Int) == 1) = true) from rfl, if_t]
    have ho : wopsOf 1 = [.num 5, .who 3, .num 4, .small 6, .small 7, .small 8, .data 15] := by simp [wopsOf]
    rw [ho] at h ⊢
    unfold F19.p1 F19.p0
    simp only [bnd, nil_p, fld_p, nil_m hm.num, Nat.zero_add, piece_eq hm]
    obtain ⟨s', r1, r2⟩ := runOps_run hstep [(k + 2, .num 5), (k, .who 3), (k, .num 4), (k + 1, .small 6), (k + 1, .small 7), (k + 1, .small 8), (k + 1, .data 15)] [] st s (by intro p hp; simp only [List.mem_cons, List.not_mem_nil, or_false] at hp; rcases hp with rfl | rfl | rfl | rfl | rfl | rfl | rfl <;> exact ⟨by simp only; omega, by simp only; omega⟩) h
    refine ⟨s', ?_, r2⟩
    rw [show [(k + 2, WOp.num 5), (k, .who 3), (k, .num 4), (k + 1, .small 6), (k + 1, .small 7), (k + 1, .small 8), (k + 1, .data 15)] = [(k + 2, WOp.num 5)] ++ [(k, .who 3), (k, .num 4), (k + 1, .small 6), (k + 1, .small 7), (k + 1, .small 8), (k + 1, .data 15)] from rfl, runOps_app] at r1
    revert r1
    show (((callOp (.iface t v) F (k + 2) (.num 5) s).bind fun q => some (AV.tuple [], q.2)).bind _ = _) → ((callOp (.iface t v) F (k + 2) (.num 5) s).bind _) = _
    cases callOp (.iface t v) F (k + 2) (.num 5) s with
    | none => intro r; cases r
    | some q =>
      intro r
      simp only [bnd] at r ⊢
      rw [r]; rfl
  rw [show ((kd == 1) = false) from by simpa using c1, if_f]
  unfold F19.p25 F19.p24
  rw [eql_i]
  by_cases c2 : kd = 4
  · subst c2
    rw [show (((4 : Int) == 4) = true) from rfl, if_t]
    have ho : wopsOf 4 = [.who 3, .num 4, .small 6, .small 7, .small 8, .data 15] := by simp [wopsOf]
    rw [ho] at h ⊢
    unfold F19.p2
    simp only [piece_eq hm]
    obtain ⟨s', r1, r2⟩ := runOps_run hstep [(k, .who 3), (k, .num 4), (k + 1, .small 6), (k + 1, .small 7), (k + 1, .small 8), (k + 1, .data 15)] [] st s (by intro p hp; simp only [List.mem_cons, List.not_mem_nil, or_false] at hp; rcases hp with rfl | rfl | rfl | rfl | rfl | rfl <;> exact ⟨by simp only; omega, by simp only; omega⟩) h
    refine ⟨s', ?_, r2⟩
    rw [r1]; rfl
  rw [show ((kd == 4) = false) from by simpa using c2, if_f]
  unfold F19.p23
  have one : kd = 2 ∨ kd = 5 ∨ kd = 10 → ∃ s', F19.p3 (k + 2) (.ptr F 0 16) (.iface t v) s = some (.tuple [], s') ∧ I ((wopsOf kd).foldl (fun st op => stepA op st) st) [] s' := by
    intro c
    unfold F19.p3
    simp only [bnd, nil_p, fld_p, nil_m hm.num, Nat.zero_add]
    have ho : wopsOf kd = [.num 5] := by
      unfold wopsOf
      rw [if_neg c1, if_neg c2, if_pos c]
    rw [ho] at h ⊢
    obtain ⟨s', r1, r2⟩ := runOps_run hstep [(k + 2, .num 5)] [] st s (by intro p hp; simp only [List.mem_cons, List.not_mem_nil, or_false] at hp; subst hp; exact ⟨by simp only; omega, by simp only; omega⟩) h
    exact ⟨s', r1, r2⟩
  rw [eql_i]
  by_cases c3 : kd = 2
  · rw [show ((kd == 2) = true) from by simpa using c3, if_t]
    unfold F19.p22
    rw [if_t]
    exact one (.inl c3)
  rw [show ((kd == 2) = false) from by simpa using c3, if_f, eql_i]
  by_cases c4 : kd = 5
  · rw [show ((kd == 5) = true) from by simpa using c4, if_t]
    unfold F19.p22
    rw [if_t]
    exact one (.inr (.inl c4))
  rw [show ((kd == 5) = false) from by simpa using c4, if_f, eql_i]
  by_cases c5 : kd = 10
  · rw [show ((kd == 10) = true) from by simpa using c5]
    unfold F19.p22
    rw [if_t]
    exact one (.inr (.inr c5))
  rw [show ((kd == 10) = false) from by simpa using c5]
  unfold F19.p22
  rw [if_f]
  have hno : ¬ (kd = 2 ∨ kd = 5 ∨ kd = 10) := by omega
  unfold F19.p21 F19.p20
  rw [eql_i]
  by_cases c6 : kd = 3
  · subst c6
    rw [show (((3 : Int) == 3) = true) from rfl, if_t]
    have ho : wopsOf 3 = [.who 3, .num 4, .small 6] := by simp [wopsOf]
    rw [ho] at h ⊢
    unfold F19.p5 F19.p4
    simp only [bnd, nil_p, fld_p, nil_m hm.small, Nat.zero_add, id_eq hm]
    obtain ⟨s', r1, r2⟩ := runOps_run hstep [(k + 1, .who 3), (k + 1, .num 4), (k + 2, .small 6)] [] st s (by intro p hp; simp only [List.mem_cons, List.not_mem_nil, or_false] at hp; rcases hp with rfl | rfl | rfl <;> exact ⟨by simp only; omega, by simp only; omega⟩) h
    refine ⟨s', ?_, r2⟩
    rw [show [(k + 1, WOp.who 3), (k + 1, .num 4), (k + 2, .small 6)] = [(k + 1, WOp.who 3), (k + 1, .num 4)] ++ [(k + 2, .small 6)] from rfl, runOps_app] at r1
    exact r1
  rw [show ((kd == 3) = false) from by simpa using c6, if_f]
  unfold F19.p19
  have two : kd = 6 ∨ kd = 7 → ∃ s', F19.p8 (k + 2) (.ptr F 0 16) (.iface t v) s = some (.tuple [], s') ∧ I ((wopsOf kd).foldl (fun st op => stepA op st) st) [] s' := by
    intro c
    have ho : wopsOf kd = [.num 9, .num 10, .runs 11] ++ (if kd = 7 then [.runs 12] else []) := by
      rcases c with rfl | rfl <;> rfl
    rw [ho] at h
    obtain ⟨s1, r1, r2⟩ := runOps_run hstep [(k + 2, .num 9), (k + 2, .num 10), (k + 2, .runs 11)] (if kd = 7 then [.runs 12] else []) st s (by intro p hp; simp only [List.mem_cons, List.not_mem_nil, or_false] at hp; rcases hp with rfl | rfl | rfl <;> exact ⟨by simp only; omega, by simp only; omega⟩) h
    obtain ⟨cs, g1, g2, g3⟩ := hk _ _ s1 r2
    have ld : ∀ f : AV → Rz, aLoad1 (.ptr F 0 16) s1 f = f (.int .u8 kd) := fun f => load_1 g1 g2 g3
    unfold F19.p8 F19.p7 F19.p6
    simp only [bnd, nil_p, fld_p, nil_m hm.num, Nat.zero_add, Nat.add_zero]
    revert r1
    show ((callOp (.iface t v) F (k + 2) (.num 9) s).bind _ = _) → ∃ s', ((callOp (.iface t v) F (k + 2) (.num 9) s).bind _) = _ ∧ _
    cases callOp (.iface t v) F (k + 2) (.num 9) s with
    | none => intro r; cases r
    | some q =>
      simp only [bnd]
      show ((callOp (.iface t v) F (k + 2) (.num 10) q.2).bind _ = _) → ∃ s', ((callOp (.iface t v) F (k + 2) (.num 10) q.2).bind _) = _ ∧ _
      cases callOp (.iface t v) F (k + 2) (.num 10) q.2 with
      | none => intro r; cases r
      | some q =>
        simp only [bnd]
        show ((rn (k + 2) 48 [.iface t v, .ptr F 11 16] q.2).bind _ = _) → ∃ s', ((rn (k + 2) 48 [.iface t v, .ptr F 11 16] q.2).bind _) = _ ∧ _
        cases rn (k + 2) 48 [.iface t v, .ptr F 11 16] q.2 with
        | none => intro r; cases r
        | some q =>
          intro r
          have hq : q.2 = s1 := by
            have : some (AV.tuple [], q.2) = some (AV.tuple [], s1) := r
            injection this with this; injection this
          subst hq
          simp only [bnd, ld, eql_i]
          rcases c with rfl | rfl
          · exact ⟨_, rfl, r2⟩
          · obtain ⟨s', t1, t2⟩ := runOps_run hstep [(k + 2, .runs 12)] [] _ q.2 (by intro p hp; simp only [List.mem_cons, List.not_mem_nil, or_false] at hp; subst hp; exact ⟨by simp only; omega, by simp only; omega⟩) r2
            refine ⟨s', ?_, t2⟩
            rw [show (((7 : Int) == 7) = true) from rfl, if_t]
            exact t1
  rw [eql_i]
  by_cases c7 : kd = 6
  · rw [show ((kd == 6) = true) from by simpa using c7, if_t]
    unfold F19.p18
    rw [if_t]
    exact two (.inl c7)
  rw [show ((kd == 6) = false) from by simpa using c7, if_f, eql_i]
  by_cases c8 : kd = 7
  · rw [show ((kd == 7) = true) from by simpa using c8]
    unfold F19.p18
    rw [if_t]
    exact two (.inr c8)
  rw [show ((kd == 7) = false) from by simpa using c8]
  unfold F19.p18
  rw [if_f]
  unfold F19.p17 F19.p16
  rw [eql_i]
  by_cases c9 : kd = 8
  · subst c9
    rw [show (((8 : Int) == 8) = true) from rfl, if_t]
    have ho : wopsOf 8 = [.num 9, .runs 11] := by simp [wopsOf]
    rw [ho] at h ⊢
    unfold F19.p10 F19.p9
    simp only [bnd, nil_p, fld_p, nil_m hm.num, Nat.zero_add]
    obtain ⟨s', r1, r2⟩ := runOps_run hstep [(k + 2, .num 9), (k + 2, .runs 11)] [] st s (by intro p hp; simp only [List.mem_cons, List.not_mem_nil, or_false] at hp; rcases hp with rfl | rfl <;> exact ⟨by simp only; omega, by simp only; omega⟩) h
    exact ⟨s', r1, r2⟩
  rw [show ((kd == 8) = false) from by simpa using c9, if_f]
  unfold F19.p15 F19.p14
  rw [eql_i]
  by_cases c10 : kd = 9
  · subst c10
    rw [show (((9 : Int) == 9) = true) from rfl, if_t]
    have ho : wopsOf 9 = [.num 9, .nums 13, .nums 14] := by simp [wopsOf]
    rw [ho] at h ⊢
    unfold F19.p12 F19.p11
    simp only [bnd, nil_p, fld_p, nil_m hm.num, Nat.zero_add]
    obtain ⟨s', r1, r2⟩ := runOps_run hstep [(k + 2, .num 9), (k + 2, .nums 13), (k + 2, .nums 14)] [] st s (by intro p hp; simp only [List.mem_cons, List.not_mem_nil, or_false] at hp; rcases hp with rfl | rfl | rfl <;> exact ⟨by simp only; omega, by simp only; omega⟩) h
    exact ⟨s', r1, r2⟩
  rw [show ((kd == 9) = false) from by simpa using c10, if_f]
  unfold F19.p13
  refine ⟨s, rfl, ?_⟩
  have ho : wopsOf kd = [] := by
    unfold wopsOf
    rw [if_neg c1, if_neg c2, if_neg hno, if_neg c6, if_neg c7, if_neg c8, if_neg c9, if_neg c10]
  rw [ho] at h ⊢
  exact h
end

theorem meth_50 : MethAll 50 := ⟨by kernel_rfl, by kernel_rfl, by kernel_rfl, by kernel_rfl, by kernel_rfl⟩
theorem meth_68 : MethAll 68 := ⟨by kernel_rfl, by kernel_rfl, by kernel_rfl, by kernel_rfl, by kernel_rfl⟩
theorem meth_107 : MethAll 107 := ⟨by kernel_rfl, by kernel_rfl, by kernel_rfl, by kernel_rfl, by kernel_rfl⟩
section
variable {call : CallA} {v : AV} {args : List AV} {s : Store} {α : Type} {κ : AV → Store → Option α}
theorem inv_rd_num : aInvoke Try.prog call (.iface 50 v) "unison/wire.num" args s κ = (call 95 (v :: args) s).bind fun r => κ r.1 r.2 := by kernel_rfl
theorem inv_rd_small : aInvoke Try.prog call (.iface 50 v) "unison/wire.small" args s κ = (call 96 (v :: args) s).bind fun r => κ r.1 r.2 := by kernel_rfl
theorem inv_rd_who : aInvoke Try.prog call (.iface 50 v) "unison/wire.who" args s κ = (call 97 (v :: args) s).bind fun r => κ r.1 r.2 := by kernel_rfl
theorem inv_rd_data : aInvoke Try.prog call (.iface 50 v) "unison/wire.data" args s κ = (call 93 (v :: args) s).bind fun r => κ r.1 r.2 := by kernel_rfl
theorem inv_rd_many : aInvoke Try.prog call (.iface 50 v) "unison/wire.many" args s κ = (call 94 (v :: args) s).bind fun r => κ r.1 r.2 := by kernel_rfl
theorem inv_kp_num : aInvoke Try.prog call (.iface 107 v) "unison/wire.num" args s κ = (call 107 (v :: args) s).bind fun r => κ r.1 r.2 := by kernel_rfl
theorem inv_kp_small : aInvoke Try.prog call (.iface 107 v) "unison/wire.small" args s κ = (call 108 (v :: args) s).bind fun r => κ r.1 r.2 := by kernel_rfl
theorem inv_kp_who : aInvoke Try.prog call (.iface 107 v) "unison/wire.who" args s κ = (call 109 (v :: args) s).bind fun r => κ r.1 r.2 := by kernel_rfl
theorem inv_kp_data : aInvoke Try.prog call (.iface 107 v) "unison/wire.data" args s κ = (call 105 (v :: args) s).bind fun r => κ r.1 r.2 := by kernel_rfl
theorem inv_kp_many : aInvoke Try.prog call (.iface 107 v) "unison/wire.many" args s κ = (call 106 (v :: args) s).bind fun r => κ r.1 r.2 := by kernel_rfl
theorem inv_wr_num : aInvoke Try.prog call (.iface 68 v) "unison/wire.num" args s κ = (call 101 (v :: args) s).bind fun r => κ r.1 r.2 := by kernel_rfl
theorem inv_wr_small : aInvoke Try.prog call (.iface 68 v) "unison/wire.small" args s κ = (call 102 (v :: args) s).bind fun r => κ r.1 r.2 := by kernel_rfl
theorem inv_wr_who : aInvoke Try.prog call (.iface 68 v) "unison/wire.who" args s κ = (call 103 (v :: args) s).bind fun r => κ r.1 r.2 := by kernel_rfl
theorem inv_wr_data : aInvoke Try.prog call (.iface 68 v) "unison/wire.data" args s κ = (call 99 (v :: args) s).bind fun r => κ r.1 r.2 := by kernel_rfl
theorem inv_wr_many : aInvoke Try.prog call (.iface 68 v) "unison/wire.many" args s κ = (call 100 (v :: args) s).bind fun r => κ r.1 r.2 := by kernel_rfl
end
end Go.Proofs.Ytkfdgegmahbkiaa.Sim
namespace Go.Proofs.Ytkfdgegmahbkiaa.Sim
set_option linter.unusedSimpArgs false
set_option linter.unusedVariables false

/-- All rows but two are as they were. -/
structure FrP (a c : Nat) (s s' : Store) : Prop where
  next : s.next ≤ s'.next
  get : ∀ l, l < s.next → l ≠ a → l ≠ c → s'.get l = s.get l
theorem FrP.refl (a c : Nat) (s : Store) : FrP a c s s := ⟨Nat.le_refl _, fun _ _ _ _ => rfl⟩
theorem FrP.trans {a c : Nat} {s s' s'' : Store} (h : FrP a c s s') (k : FrP a c s' s'') : FrP a c s s'' := ⟨Nat.le_trans h.next k.next, fun l hl h1 h2 => (k.get l (Nat.lt_of_lt_of_le hl h.next) h1 h2).trans (h.get l hl h1 h2)⟩
theorem FrP.ext {a c : Nat} {s0 s s' : Store} (e : Ext s0 s) (h : FrP a c s s') (ha : s0.next ≤ a) (hc : s0.next ≤ c) : Ext s0 s' := ⟨Nat.le_trans e.next h.next, fun l hl => (h.get l (Nat.lt_of_lt_of_le hl e.next) (by omega) (by omega)).trans (e.get l hl)⟩
theorem Ext.frP {s s' : Store} (h : Ext s s') (a c : Nat) : FrP a c s s' := ⟨h.next, fun l hl _ _ => h.get l hl⟩
def offP (a c : Nat) (v : AV) : Prop := ∀ i b n d f, v = .sl i b n d f → i ≠ a ∧ i ≠ c
theorem IsV.frP {a c : Nat} {s s' : Store} {v : AV} {k : IntKind} {xs : List Int} (h : IsV s v k xs) (e : FrP a c s s') (hx : offP a c v) : IsV s' v k xs := by
  rcases h with h | ⟨l, off, ys, ro, h1, h2, h3, h4⟩
  · exact .inl h
  · obtain ⟨x1, x2⟩ := hx _ _ _ _ _ h1
    exact .inr ⟨l, off, ys, ro, h1, Nat.lt_of_lt_of_le h2 e.next, by rw [e.get l h2 x1 x2]; exact h3, h4⟩
theorem IsRuns.frP {a c : Nat} {s s' : Store} {v : AV} {xs : List Rn} (h : IsRuns s v xs) (e : FrP a c s s') (hx : offP a c v) : IsRuns s' v xs := by
  rcases h with h | ⟨l, ro, h1, h2, h3⟩
  · exact .inl h
  · obtain ⟨x1, x2⟩ := hx _ _ _ _ _ h1
    exact .inr ⟨l, ro, h1, Nat.lt_of_lt_of_le h2 e.next, by rw [e.get l h2 x1 x2]; exact h3⟩
theorem IsRd.set {s : Store} {id rd : Nat} {b : List Int} {e : Int} {Q : Nat → Prop} {o : AObj} (h : IsRd s rd b e Q) (hq : ¬ Q id) : IsRd (s.set id o) rd b e Q := by
  obtain ⟨bv, h1, h2, h3, h4, h5⟩ := h
  have hr : rd ≠ id := fun q => hq (q ▸ h3)
  refine ⟨bv, by rw [get_set, if_neg hr]; exact h1, h2, h3, ?_, h5⟩
  rcases h4 with h4 | ⟨l, off, ys, ro, k1, k2, k3, k4⟩
  · exact .inl h4
  · have hl : l ≠ id := fun q => hq (q ▸ (h5 _ _ _ _ _ k1).2)
    exact .inr ⟨l, off, ys, ro, k1, k2, by rw [get_set, if_neg hl]; exact k3, k4⟩
theorem st_cell {id off ep : Nat} {cs : List AV} {v : AV} {s : Store} (hg : s.get id = .cells cs false) (hl : cs.length = ep) (ho : off < ep) (hv : ∀ {α : Type} (f : List AV → Option α), aCells v f = f [v]) {α : Type} (f : Store → Option α) : aStore 1 (.ptr id off ep) v s f = f (s.set id (.cells (cs.set off v) false)) := by
  simp only [aStore, hv, aOwn, hg, hl, if_true, List.length_singleton]
  rw [if_pos ⟨trivial, by omega⟩]
  rfl
theorem numR_le (b : List Int) {most : Int} (hm : 0 ≤ most) : (numR b most).1 ≤ most := by
  unfold numR
  cases b with
  | nil => exact hm
  | cons k r =>
    simp only
    split
    · exact hm
    · split
      · exact hm
      · split
        · exact hm
        · split
          · exact hm
          · simp only; omega
theorem rdNum_bnd {b : List Int} (hu : ∀ x ∈ b, 0 ≤ x ∧ x < 256) (e : Int) {most : Int} (hm : 0 ≤ most) : 0 ≤ (rdNum b e most).1 ∧ (rdNum b e most).1 ≤ most := by
  unfold rdNum
  split
  · exact ⟨Int.le_refl _, hm⟩
  · split
    · exact ⟨Int.le_refl _, hm⟩
    · exact ⟨numR_nn hu most, numR_le b hm⟩

section
variable {s : Store} {rd id off ep : Nat} {b : List Int} {e : Int} {Q : Nat → Prop} {cs : List AV}
/-- A number is read, and put where a cell lies. -/
theorem rd_cell (h : IsRd s rd b e Q) (hu : ∀ x ∈ b, 0 ≤ x ∧ x < 256) (hb : b.length ≤ 1000000) (hg : s.get id = .cells cs false) (hl : cs.length = ep) (ho : off < ep) (hid : id < s.next) (hq : ¬ Q id) (most : Int) (k : Nat) (hk : 20 ≤ k) (kk : IntKind) (n : Int) (hn : (rdNum b e most).1 = n) : ∃ s2, rn (k + 2) 42 [.ptr rd 0 2, .int .u64 most] (s.push (.cells [.ptr rd 0 2] false)) = some (.int .u64 n, s2) ∧
    (∀ {α : Type} (f : Store → Option α), aStore 1 (.ptr id off ep) (.int kk n) s2 f = f (s2.set id (.cells (cs.set off (.int kk n)) false))) ∧ IsRd (s2.set id (.cells (cs.set off (.int kk n)) false)) rd (rdNum b e most).2.1 (rdNum b e most).2.2 Q ∧ FrP id rd s (s2.set id (.cells (cs.set off (.int kk n)) false)) := by
  have e1 := Ext.push s (.cells [.ptr rd 0 2] false)
  obtain ⟨s2, k1, k2, k3⟩ := num_run (h.ext e1) hu hb most k hk
  rw [hn] at k1
  have hr : id ≠ rd := by
    obtain ⟨bv, h1, h2, h3, h4, h5⟩ := h
    exact fun q => hq (q ▸ h3)
  have hg2 : s2.get id = .cells cs false := by
    rw [k3.get id (Nat.lt_of_lt_of_le hid e1.next) hr, e1.get id hid]; exact hg
  refine ⟨s2, k1, fun f => st_cell hg2 hl ho (fun f => rfl) f, k2.set hq, ⟨Nat.le_trans e1.next k3.next, fun l hl h1 h2 => ?_⟩⟩
  rw [get_set, if_neg h1, k3.get l (Nat.lt_of_lt_of_le hl e1.next) h2, e1.get l hl]
theorem ld_rd (s : Store) (rd : Nat) {α : Type} (f : AV → Option α) : aLoad1 (.ptr s.next 0 1) (s.push (.cells [.ptr rd 0 2] false)) f = f (.ptr rd 0 2) := load_1 (by rw [get_push, if_pos rfl]) rfl rfl
theorem rd_num_at (h : IsRd s rd b e Q) (hu : ∀ x ∈ b, 0 ≤ x ∧ x < 256) (hb : b.length ≤ 1000000) (hg : s.get id = .cells cs false) (hl : cs.length = ep) (ho : off < ep) (hid : id < s.next) (hq : ¬ Q id) (k : Nat) (hk : 20 ≤ k) : ∃ s', rn (k + 3) 95 [.agg [.ptr rd 0 2], .ptr id off ep] s = some (.tuple [], s') ∧ s'.get id = .cells (cs.set off (.int .u64 (rdNum b e 18446744073709551615).1)) false ∧ IsRd s' rd (rdNum b e 18446744073709551615).2.1 (rdNum b e 18446744073709551615).2.2 Q ∧ FrP id rd s s' := by
  rw [F95.eq]
  unfold F95.f F95.p0
  obtain ⟨s2, k1, k2, k3, k4⟩ := rd_cell h hu hb hg hl ho hid hq 18446744073709551615 k hk .u64 _ rfl
  rw [cells_agg, new_s]
  simp only [fld_p, List.length_singleton, Nat.add_zero]
  rw [ld_rd, k1, bnd, nil_p, k2]
  exact ⟨_, rfl, by rw [get_set, if_pos rfl], k3, k4⟩
theorem rd_small_at (h : IsRd s rd b e Q) (hu : ∀ x ∈ b, 0 ≤ x ∧ x < 256) (hb : b.length ≤ 1000000) (hg : s.get id = .cells cs false) (hl : cs.length = ep) (ho : off < ep) (hid : id < s.next) (hq : ¬ Q id) (k : Nat) (hk : 20 ≤ k) : ∃ s', rn (k + 3) 96 [.agg [.ptr rd 0 2], .ptr id off ep] s = some (.tuple [], s') ∧ s'.get id = .cells (cs.set off (.int .u32 (rdNum b e 4294967295).1)) false ∧ IsRd s' rd (rdNum b e 4294967295).2.1 (rdNum b e 4294967295).2.2 Q ∧ FrP id rd s s' := by
  rw [F96.eq]
  unfold F96.f F96.p0
  obtain ⟨s2, k1, k2, k3, k4⟩ := rd_cell h hu hb hg hl ho hid hq 4294967295 k hk .u32 _ rfl
  have hw := rdNum_bnd hu e (most := 4294967295) (by omega)
  rw [cells_agg, new_s]
  simp only [fld_p, List.length_singleton, Nat.add_zero]
  rw [ld_rd, k1, bnd, conv_i, w_u32 hw.1 (by omega), nil_p, k2]
  exact ⟨_, rfl, by rw [get_set, if_pos rfl], k3, k4⟩
theorem rd_who_at (h : IsRd s rd b e Q) (hu : ∀ x ∈ b, 0 ≤ x ∧ x < 256) (hb : b.length ≤ 1000000) (hg : s.get id = .cells cs false) (hl : cs.length = ep) (ho : off < ep) (hid : id < s.next) (hq : ¬ Q id) (k : Nat) (hk : 20 ≤ k) : ∃ s', rn (k + 3) 97 [.agg [.ptr rd 0 2], .ptr id off ep] s = some (.tuple [], s') ∧ s'.get id = .cells (cs.set off (.int .u8 (rdNum b e 255).1)) false ∧ IsRd s' rd (rdNum b e 255).2.1 (rdNum b e 255).2.2 Q ∧ FrP id rd s s' := by
  rw [F97.eq]
  unfold F97.f F97.p0
  obtain ⟨s2, k1, k2, k3, k4⟩ := rd_cell h hu hb hg hl ho hid hq 255 k hk .u8 _ rfl
  have hw := rdNum_bnd hu e (most := 255) (by omega)
  rw [cells_agg, new_s]
  simp only [fld_p, List.length_singleton, Nat.add_zero]
  rw [ld_rd, k1, bnd, conv_i, w_u8 hw.1 (by omega), nil_p, k2]
  exact ⟨_, rfl, by rw [get_set, if_pos rfl], k3, k4⟩
theorem rd_many (h : IsRd s rd b e Q) (hu : ∀ x ∈ b, 0 ≤ x ∧ x < 256) (hb : b.length ≤ 1000000) (x : AV) (k : Nat) (hk : 20 ≤ k) : ∃ s', rn (k + 3) 94 [.agg [.ptr rd 0 2], x] s = some (.int .i64 (rdNum b e 64).1, s') ∧ IsRd s' rd (rdNum b e 64).2.1 (rdNum b e 64).2.2 Q ∧ Fr1 rd s s' := by
  rw [F94.eq]
  unfold F94.f F94.p0
  have e1 := Ext.push s (.cells [.ptr rd 0 2] false)
  obtain ⟨s2, k1, k2, k3⟩ := num_run (h.ext e1) hu hb 64 k hk
  have hw := rdNum_bnd hu e (most := 64) (by omega)
  rw [cells_agg, new_s]
  simp only [fld_p, List.length_singleton, Nat.add_zero]
  rw [ld_rd, k1, bnd, conv_i, w_i64 (by omega) (by omega)]
  exact ⟨_, rfl, k2, (e1.fr1 rd).trans k3⟩
theorem rd_data_at (h : IsRd s rd b e Q) (hu : ∀ x ∈ b, 0 ≤ x ∧ x < 256) (hb : b.length ≤ 1000000) (hg : s.get id = .cells cs false) (hl : cs.length = ep) (ho : off < ep) (hid : id < s.next) (hq : ¬ Q id) (hne : ∀ ys : List Int, cs ≠ ys.map (.int .u8)) (k : Nat) (hk : 20 ≤ k) : ∃ v s', rn (k + 3) 93 [.agg [.ptr rd 0 2], .ptr id off ep] s = some (.tuple [], s') ∧ s'.get id = .cells (cs.set off v) false ∧ IsV s' v .u8 (rdRow b e 65536).1 ∧ offP id rd v ∧ IsRd s' rd (rdRow b e 65536).2.1 (rdRow b e 65536).2.2 Q ∧ FrP id rd s s' := by
  rw [F93.eq]
  unfold F93.f F93.p0
  have e1 := Ext.push s (.cells [.ptr rd 0 2] false)
  obtain ⟨v, s2, k1, k2, k3, k4⟩ := row_run (h.ext e1) hu hb 65536 (by omega) k hk
  have hr : id ≠ rd := by
    obtain ⟨bv, h1, h2, h3, h4, h5⟩ := h
    exact fun q => hq (q ▸ h3)
  have hg2 : s2.get id = .cells cs false := by
    rw [k4.get id (Nat.lt_of_lt_of_le hid e1.next) hr, e1.get id hid]; exact hg
  have hoff : offP id rd v := by
    intro i o n d f q
    rcases k2 with ⟨q2, _⟩ | ⟨l, of, ys, ro, q2, _, q3, _⟩
    · rw [q2] at q; cases q
    · rw [q2] at q
      cases q
      constructor
      · intro z
        subst z
        rw [hg2] at q3
        injection q3 with q3
        exact hne ys q3
      · intro z
        subst z
        obtain ⟨bv, h1, _⟩ := k3
        rw [h1] at q3
        injection q3 with q3
        cases ys with
        | nil => cases q3
        | cons y ys =>
          cases ys with
          | nil => cases q3
          | cons z ys => injection q3 with _ q3; injection q3 with q3; injection q3 with q3; cases q3
  have hv : ∀ {α : Type} (f : List AV → Option α), aCells v f = f [v] := by
    intro α f
    rcases k2 with ⟨q2, _⟩ | ⟨l, of, ys, ro, q2, _⟩ <;> subst q2 <;> rfl
  have hf : FrP id rd s2 (s2.set id (.cells (cs.set off v) false)) := ⟨Nat.le_refl _, fun l _ h1 _ => by rw [get_set, if_neg h1]⟩
  rw [cells_agg, new_s]
  simp only [fld_p, List.length_singleton, Nat.add_zero]
  rw [ld_rd, k1, bnd, nil_p, st_cell hg2 hl ho hv]
  refine ⟨v, _, rfl, by rw [get_set, if_pos rfl], k2.frP hf hoff, hoff, k3.set hq, ⟨Nat.le_trans e1.next k4.next, fun l hl h1 h2 => ?_⟩⟩
  rw [get_set, if_neg h1, k4.get l (Nat.lt_of_lt_of_le hl e1.next) h2, e1.get l hl]
end

/-- A run is read. -/
def rdRun (b : List Int) (e : Int) : Rn × List Int × Int :=
  let a := rdNum b e 255
  let c := rdNum a.2.1 a.2.2 18446744073709551615
  let d := rdNum c.2.1 c.2.2 18446744073709551615
  ((a.1, c.1, d.1), d.2.1, d.2.2)
def rdRuns : Nat → List Int → Int → List Rn × List Int × Int
  | 0, b, e => ([], b, e)
  | n + 1, b, e => ((rdRun b e).1 :: (rdRuns n (rdRun b e).2.1 (rdRun b e).2.2).1, (rdRuns n (rdRun b e).2.1 (rdRun b e).2.2).2)
def rdNums : Nat → List Int → Int → List Int × List Int × Int
  | 0, b, e => ([], b, e)
  | n + 1, b, e => ((rdNum b e 18446744073709551615).1 :: (rdNums n (rdNum b e 18446744073709551615).2.1 (rdNum b e 18446744073709551615).2.2).1, (rdNums n (rdNum b e 18446744073709551615).2.1 (rdNum b e 18446744073709551615).2.2).2)
theorem rdRuns_len : ∀ (n : Nat) (b : List Int) (e : Int), (rdRuns n b e).1.length = n
  | 0, _, _ => rfl
  | n + 1, b, e => by simp [rdRuns, rdRuns_len n]
theorem rdNums_len : ∀ (n : Nat) (b : List Int) (e : Int), (rdNums n b e).1.length = n
  | 0, _, _ => rfl
  | n + 1, b, e => by simp [rdNums, rdNums_len n]

section
variable {F rd j lo : Nat} {cs : List AV}
/-- Runs are read behind those that were. -/
theorem runs_loop (k : Nat) (hk : 40 ≤ k) (hcs : cs.length = 16) (hj : j < 16) (hF : F < lo) (hrd : rd < lo) (hFr : F ≠ rd) {m : Nat} (hm : m ≤ 64) : ∀ (n : Nat) (s : Store) (ev : AV) (l : List Rn) (b : List Int) (e : Int), lo ≤ s.next → s.get F = .cells (cs.set j ev) false → OwnL rcells 3 s ev l lo → IsRd s rd b e (fun i => i ≠ F ∧ i < lo) → (∀ x ∈ b, 0 ≤ x ∧ x < 256) → b.length ≤ 1000000 → l.length ≤ m → m - l.length < n →
    ∃ ev' s', F48.l0 (k + 3) n (.iface 50 (.agg [.ptr rd 0 2])) (.ptr F j 16) (.int .i64 (m : Int)) (.int .i64 (l.length : Int)) s = some (.tuple [], s') ∧ s'.get F = .cells (cs.set j ev') false ∧ OwnL rcells 3 s' ev' (l ++ (rdRuns (m - l.length) b e).1) lo ∧
      IsRd s' rd (rdRuns (m - l.length) b e).2.1 (rdRuns (m - l.length) b e).2.2 (fun i => i ≠ F ∧ i < lo) ∧ s.next ≤ s'.next ∧ (∀ r, r < lo → r ≠ F → r ≠ rd → s'.get r = s.get r)
  | 0, s, ev, l, b, e, _, _, _, _, _, _, _, hn => by omega
  | n + 1, s, ev, l, b, e, hlo, hg, hev, hr, hu, hb, hl, hn => by
    have hs : F48.l0 (k + 3) (n + 1) = fun x0 x1 x16 x17 s => F48.p8 (k + 3) (F48.l0 (k + 3) n) x0 x1 x16 x17 s := rfl
    rw [hs]
    clear hs
    simp only
    unfold F48.p8 F48.p7
    rw [lss_i]
    by_cases h : l.length < m
    · rw [decide_eq_true (show (l.length : Int) < (m : Int) by omega), if_t]
      unfold F48.p6 F48.p5
      have ld : ∀ (t : Store) (w : AV), t.get F = .cells (cs.set j w) false → ∀ f : AV → Rz, aLoad1 (.ptr F j 16) t f = f w := fun t w ht f => load_1 ht (by simp [hcs]) (by simp [hcs, hj])
      rw [nil_p, ld s ev hg, lenL hev.is, geq_i, decide_eq_true (show (l.length : Int) ≥ (l.length : Int) by omega), if_t, nil_p, ld s ev hg]
      have hb1 : ∀ f : List AV → Rz, aBuild [] [AV.int .u8 0, AV.int .u64 0, AV.int .u64 0] f = f (rcells (0, 0, 0)) := fun f => rfl
      have hb2 : ∀ f : List AV → Rz, aBuild [(0, 3, AV.agg (rcells (0, 0, 0)))] [AV.int .u8 0, AV.int .u64 0, AV.int .u64 0] f = f (rcells (0, 0, 0)) := fun f => rfl
      rw [hb1, hb2]
      obtain ⟨v1, s1, a1, a2, a3⟩ := app_ownL (bytes := 24) (c := rcells) (es := 3) (fun x => rfl) (by omega) (by omega) hev hlo (0, 0, 0) (by omega)
      rw [a1, nil_p]
      have hg1 : s1.get F = .cells (cs.set j ev) false := (a3.get F hF).trans hg
      have hv1 : ∀ {α : Type} (f : List AV → Option α), aCells v1 f = f [v1] := by
        intro α f
        rcases a2 with ⟨q, _⟩ | ⟨id, q, _⟩ <;> subst q <;> rfl
      rw [st_cell hg1 (by simp [hcs]) hj hv1]
      have hss : (cs.set j ev).set j v1 = cs.set j v1 := by simp
      rw [hss]
      unfold F48.p4
      generalize hs2 : s1.set F (.cells (cs.set j v1) false) = s2
      have hg2 : s2.get F = .cells (cs.set j v1) false := by rw [← hs2, get_set, if_pos rfl]
      rcases a2 with ⟨q, q2⟩ | ⟨id, rfl, i1, i2, i3⟩
      · simp at q2
      have hidF : id ≠ F := by omega
      have hg3 : s2.get id = .cells ((l ++ [(0, 0, 0)]).map rcells).flatten false := by rw [← hs2, get_set, if_neg hidF]; exact i3
      have hn2 : s2.next = s1.next := by rw [← hs2]; rfl
      rw [nil_p, ld s2 _ hg2]
      have hix : ∀ f : AV → Rz, aIndexSl 3 (.sl id 0 (l ++ [((0, 0, 0) : Rn)]).length 3 ((l ++ [((0, 0, 0) : Rn)]).length * 3)) (.int .i64 (l.length : Int)) f = f (.ptr id (0 + l.length * 3) ((l ++ [((0, 0, 0) : Rn)]).length * 3)) := fun f => idxL (l := l ++ [((0, 0, 0) : Rn)]) (by simp) f
      rw [hix]
      unfold F48.p3
      simp only [bnd, nil_p, fld_p, nil_m meth_50.who, inv_rd_who, Nat.add_zero]
      have hr1 : IsRd s1 rd b e (fun i => i ≠ F ∧ i < lo) := by
        obtain ⟨bv, h1, h2, h3, h4, h5⟩ := hr
        refine ⟨bv, (a3.get rd hrd).trans h1, Nat.lt_of_lt_of_le h2 a3.next, h3, ?_, h5⟩
        rcases h4 with h4 | ⟨l', off, ys, ro, k1, k2, k3, k4⟩
        · exact .inl h4
        · exact .inr ⟨l', off, ys, ro, k1, Nat.lt_of_lt_of_le k2 a3.next, by rw [a3.get l' (h5 _ _ _ _ _ k1).2.2]; exact k3, k4⟩
      have hr2 : IsRd s2 rd b e (fun i => i ≠ F ∧ i < lo) := by rw [← hs2]; exact hr1.set (by simp)
      have hQ : ¬ (id ≠ F ∧ id < lo) := by omega
      have hA : (l.map rcells).flatten.length = l.length * 3 := flat_len l
      have hfl : ((l ++ [(0, 0, 0)]).map rcells).flatten = (l.map rcells).flatten ++ [AV.int .u8 0, AV.int .u64 0, AV.int .u64 0] := by simp [rcells]
      have hll : (l ++ [((0, 0, 0) : Rn)]).length = l.length + 1 := by simp
      have hset : ∀ (B : List AV) (q : Nat) (y : AV), ((l.map rcells).flatten ++ B).set (0 + l.length * 3 + q) y = (l.map rcells).flatten ++ B.set q y := fun B q y => by
        rw [List.set_append_right _ _ (by omega), hA]
        congr 2
        omega
      rw [hfl] at hg3
      rw [hll]
      have hlen : ∀ x y z : AV, ((l.map rcells).flatten ++ [x, y, z]).length = (l.length + 1) * 3 := fun x y z => by rw [List.length_append, hA]; simp; omega
      obtain ⟨s3, b1, b2, b3, b4⟩ := rd_who_at (off := 0 + l.length * 3) hr2 hu hb hg3 (hlen _ _ _) (by omega) (by rw [hn2]; exact i2) hQ k (by omega)
      have hset0 := hset [AV.int .u8 0, AV.int .u64 0, AV.int .u64 0] 0 (AV.int .u8 (rdNum b e 255).1)
      rw [Nat.add_zero] at hset0
      rw [hset0] at b2
      rw [b1]
      simp only [bnd]
      unfold F48.p2
      simp only [bnd, nil_p, fld_p, nil_m meth_50.num, inv_rd_num]
      have hu1 := rdNum_u8 (e := e) (most := 255) hu
      have hb1' := Nat.le_trans (rdNum_len (b := b) (e := e) (most := 255)) hb
      obtain ⟨s4, c1, c2, c3, c4⟩ := rd_num_at (off := 0 + l.length * 3 + 1) b3 hu1 hb1' b2 (hlen _ _ _) (by omega) (Nat.lt_of_lt_of_le (by rw [hn2]; exact i2) b4.next) hQ k (by omega)
      rw [hset] at c2
      rw [c1]
      simp only [bnd]
      unfold F48.p1
      simp only [bnd, nil_p, fld_p, nil_m meth_50.num, inv_rd_num]
      have hu2 := rdNum_u8 (e := (rdNum b e 255).2.2) (most := 18446744073709551615) hu1
      have hb2' := Nat.le_trans (rdNum_len (b := (rdNum b e 255).2.1) (e := (rdNum b e 255).2.2) (most := 18446744073709551615)) hb1'
      obtain ⟨s5, d1, d2, d3, d4⟩ := rd_num_at (off := 0 + l.length * 3 + 2) c3 hu2 hb2' c2 (hlen _ _ _) (by omega) (Nat.lt_of_lt_of_le (Nat.lt_of_lt_of_le (by rw [hn2]; exact i2) b4.next) c4.next) hQ k (by omega)
      rw [hset] at d2
      rw [d1]
      simp only [bnd]
      unfold F48.p0
      have hwi : IntKind.i64.wrap ((l.length : Int) + 1) = ((l.length + 1 : Nat) : Int) := by rw [w_i64 (by omega) (by omega)]; omega
      rw [add_i, hwi]
      have hu3 := rdNum_u8 (e := (rdNum (rdNum b e 255).2.1 (rdNum b e 255).2.2 18446744073709551615).2.2) (most := 18446744073709551615) hu2
      have hb3' := Nat.le_trans (rdNum_len (b := (rdNum (rdNum b e 255).2.1 (rdNum b e 255).2.2 18446744073709551615).2.1) (e := (rdNum (rdNum b e 255).2.1 (rdNum b e 255).2.2 18446744073709551615).2.2) (most := 18446744073709551615)) hb2'
      have f5 : FrP id rd s2 s5 := (b4.trans c4).trans d4
      have hnx : s.next ≤ s5.next := by have := a3.next; have := f5.next; omega
      have hg5 : s5.get F = .cells (cs.set j (.sl id 0 (l.length + 1) 3 ((l.length + 1) * 3))) false := by
        rw [f5.get F (by rw [hn2]; exact Nat.lt_of_lt_of_le hF (Nat.le_trans hlo a3.next)) (Ne.symm hidF) hFr, hg2, hll]
      have ho5 : OwnL rcells 3 s5 (.sl id 0 (l.length + 1) 3 ((l.length + 1) * 3)) (l ++ [(rdRun b e).1]) lo := .inr ⟨id, by simp, i1, Nat.lt_of_lt_of_le (by rw [hn2]; exact i2) f5.next, by rw [d2]; simp [rcells, rdRun]⟩
      obtain ⟨ev', s', g1, g2, g3, g4, g5, g6⟩ := runs_loop k hk hcs hj hF hrd hFr hm n s5 (.sl id 0 (l.length + 1) 3 ((l.length + 1) * 3)) (l ++ [(rdRun b e).1]) _ _ (by omega) hg5 ho5 d3 hu3 hb3' (by simp; omega) (by simp; omega)
      rw [List.length_append, List.length_singleton] at g1 g3 g4
      have hsplit : rdRuns (m - l.length) b e = ((rdRun b e).1 :: (rdRuns (m - (l.length + 1)) (rdRun b e).2.1 (rdRun b e).2.2).1, (rdRuns (m - (l.length + 1)) (rdRun b e).2.1 (rdRun b e).2.2).2) := by
        rw [show m - l.length = (m - (l.length + 1)) + 1 by omega]; rfl
      refine ⟨ev', s', g1, g2, ?_, ?_, by omega, fun r h1 h2 h3 => ?_⟩
      · rw [hsplit, List.append_cons]; exact g3
      · rw [hsplit]; exact g4
      · rw [g6 r h1 h2 h3, f5.get r (by rw [hn2]; exact Nat.lt_of_lt_of_le h1 (Nat.le_trans hlo a3.next)) (by omega) h3, ← hs2, get_set, if_neg h2, a3.get r h1]
    · rw [decide_eq_false (show ¬ (l.length : Int) < (m : Int) by omega), if_f]
      refine ⟨ev, s, rfl, hg, ?_, ?_, Nat.le_refl _, fun r _ _ _ => rfl⟩
      · rw [show m - l.length = 0 by omega]; simpa [rdRuns] using hev
      · rw [show m - l.length = 0 by omega]; exact hr
theorem nums_loop (k : Nat) (hk : 40 ≤ k) (hcs : cs.length = 16) (hj : j < 16) (hF : F < lo) (hrd : rd < lo) (hFr : F ≠ rd) {m : Nat} (hm : m ≤ 64) : ∀ (n : Nat) (s : Store) (ev : AV) (l : List Int) (b : List Int) (e : Int), lo ≤ s.next → s.get F = .cells (cs.set j ev) false → OwnV s ev .u64 l lo → IsRd s rd b e (fun i => i ≠ F ∧ i < lo) → (∀ x ∈ b, 0 ≤ x ∧ x < 256) → b.length ≤ 1000000 → l.length ≤ m → m - l.length < n →
    ∃ ev' s', F49.l0 (k + 3) n (.iface 50 (.agg [.ptr rd 0 2])) (.ptr F j 16) (.int .i64 (m : Int)) (.int .i64 (l.length : Int)) s = some (.tuple [], s') ∧ s'.get F = .cells (cs.set j ev') false ∧ OwnV s' ev' .u64 (l ++ (rdNums (m - l.length) b e).1) lo ∧
      IsRd s' rd (rdNums (m - l.length) b e).2.1 (rdNums (m - l.length) b e).2.2 (fun i => i ≠ F ∧ i < lo) ∧ s.next ≤ s'.next ∧ (∀ r, r < lo → r ≠ F → r ≠ rd → s'.get r = s.get r)
  | 0, s, ev, l, b, e, _, _, _, _, _, _, _, hn => by omega
  | n + 1, s, ev, l, b, e, hlo, hg, hev, hr, hu, hb, hl, hn => by
    have hs : F49.l0 (k + 3) (n + 1) = fun x0 x1 x15 x16 s => F49.p5 (k + 3) (F49.l0 (k + 3) n) x0 x1 x15 x16 s := rfl
    rw [hs]
    clear hs
    simp only
    unfold F49.p5 F49.p4
    rw [lss_i]
    by_cases h : l.length < m
    · rw [decide_eq_true (show (l.length : Int) < (m : Int) by omega), if_t]
      unfold F49.p3 F49.p2
      have ld : ∀ (t : Store) (w : AV), t.get F = .cells (cs.set j w) false → ∀ f : AV → Rz, aLoad1 (.ptr F j 16) t f = f w := fun t w ht f => load_1 ht (by simp [hcs]) (by simp [hcs, hj])
      rw [nil_p, ld s ev hg, lenV hev.is, geq_i, decide_eq_true (show (l.length : Int) ≥ (l.length : Int) by omega), if_t, nil_p, ld s ev hg, build_1]
      obtain ⟨v1, s1, a1, a2, a3, a4⟩ := app1V (bytes := 8) hev hlo 0 (by omega) (by omega)
      rw [a1, nil_p]
      have hg1 : s1.get F = .cells (cs.set j ev) false := (a3.get F hF).trans hg
      have hv1 : ∀ {α : Type} (f : List AV → Option α), aCells v1 f = f [v1] := by
        intro α f
        rcases a2 with ⟨q, _⟩ | ⟨id, q, _⟩ <;> subst q <;> rfl
      rw [st_cell hg1 (by simp [hcs]) hj hv1]
      have hss : (cs.set j ev).set j v1 = cs.set j v1 := by simp
      rw [hss]
      generalize hs2 : s1.set F (.cells (cs.set j v1) false) = s2
      have hg2 : s2.get F = .cells (cs.set j v1) false := by rw [← hs2, get_set, if_pos rfl]
      rcases a2 with ⟨q, q2⟩ | ⟨id, rfl, i1, i2, i3⟩
      · exact absurd q a4
      have hidF : id ≠ F := by omega
      have hg3 : s2.get id = .cells ((l ++ [0]).map (.int .u64)) false := by rw [← hs2, get_set, if_neg hidF]; exact i3
      have hn2 : s2.next = s1.next := by rw [← hs2]; rfl
      unfold F49.p1
      have hix : ∀ {α : Type} (f : AV → Option α), aIndexSl 1 (.sl id 0 (l ++ [0]).length 1 (l ++ [0]).length) (.int .i64 (l.length : Int)) f = f (.ptr id (0 + l.length) (l ++ [0]).length) := fun f => by
        rw [idxV (by omega) (by simp; omega), Int.toNat_natCast]
      simp only [bnd, nil_p, ld s2 _ hg2, hix, nil_m meth_50.num, inv_rd_num]
      have hr1 : IsRd s1 rd b e (fun i => i ≠ F ∧ i < lo) := by
        obtain ⟨bv, h1, h2, h3, h4, h5⟩ := hr
        refine ⟨bv, (a3.get rd hrd).trans h1, Nat.lt_of_lt_of_le h2 a3.next, h3, ?_, h5⟩
        rcases h4 with h4 | ⟨l', off, ys, ro, k1, k2, k3, k4⟩
        · exact .inl h4
        · exact .inr ⟨l', off, ys, ro, k1, Nat.lt_of_lt_of_le k2 a3.next, by rw [a3.get l' (h5 _ _ _ _ _ k1).2.2]; exact k3, k4⟩
      have hr2 : IsRd s2 rd b e (fun i => i ≠ F ∧ i < lo) := by rw [← hs2]; exact hr1.set (by simp)
      have hQ : ¬ (id ≠ F ∧ id < lo) := by omega
      obtain ⟨s3, b1, b2, b3, b4⟩ := rd_num_at (off := 0 + l.length) hr2 hu hb hg3 (ep := (l ++ [0]).length) (by simp) (by simp) (by rw [hn2]; exact i2) hQ k (by omega)
      rw [b1]
      simp only [bnd]
      unfold F49.p0
      have hwi : IntKind.i64.wrap ((l.length : Int) + 1) = ((l.length + 1 : Nat) : Int) := by rw [w_i64 (by omega) (by omega)]; omega
      rw [add_i, hwi]
      have hu1 := rdNum_u8 (e := e) (most := 18446744073709551615) hu
      have hb1' := Nat.le_trans (rdNum_len (b := b) (e := e) (most := 18446744073709551615)) hb
      have hcell : ((l ++ [0]).map (AV.int .u64)).set (0 + l.length) (.int .u64 (rdNum b e 18446744073709551615).1) = (l ++ [(rdNum b e 18446744073709551615).1]).map (.int .u64) := by
        rw [List.map_append, List.map_append, Nat.zero_add, List.set_append_right _ _ (by simp)]
        simp
      rw [hcell] at b2
      have hnx : s.next ≤ s3.next := by have := a3.next; have := b4.next; omega
      have hll : (l ++ [(0 : Int)]).length = l.length + 1 := by simp
      have hg5 : s3.get F = .cells (cs.set j (.sl id 0 (l ++ [(0 : Int)]).length 1 (l ++ [(0 : Int)]).length)) false := by
        rw [b4.get F (by rw [hn2]; exact Nat.lt_of_lt_of_le hF (Nat.le_trans hlo a3.next)) (Ne.symm hidF) hFr, hg2]
      have ho5 : OwnV s3 (.sl id 0 (l ++ [(0 : Int)]).length 1 (l ++ [(0 : Int)]).length) .u64 (l ++ [(rdNum b e 18446744073709551615).1]) lo := .inr ⟨id, by simp, i1, Nat.lt_of_lt_of_le (by rw [hn2]; exact i2) b4.next, b2⟩
      obtain ⟨ev', s', g1, g2, g3, g4, g5, g6⟩ := nums_loop k hk hcs hj hF hrd hFr hm n s3 _ (l ++ [(rdNum b e 18446744073709551615).1]) _ _ (by omega) hg5 ho5 b3 hu1 hb1' (by simp; omega) (by simp; omega)
      rw [List.length_append, List.length_singleton] at g1 g3 g4
      have hsplit : rdNums (m - l.length) b e = ((rdNum b e 18446744073709551615).1 :: (rdNums (m - (l.length + 1)) (rdNum b e 18446744073709551615).2.1 (rdNum b e 18446744073709551615).2.2).1, (rdNums (m - (l.length + 1)) (rdNum b e 18446744073709551615).2.1 (rdNum b e 18446744073709551615).2.2).2) := by
        rw [show m - l.length = (m - (l.length + 1)) + 1 by omega]; rfl
      refine ⟨ev', s', g1, g2, ?_, ?_, by omega, fun r h1 h2 h3 => ?_⟩
      · rw [hsplit, List.append_cons]; exact g3
      · rw [hsplit]; exact g4
      · rw [g6 r h1 h2 h3, b4.get r (by rw [hn2]; exact Nat.lt_of_lt_of_le h1 (Nat.le_trans hlo a3.next)) (by omega) h3, ← hs2, get_set, if_neg h2, a3.get r h1]
    · rw [decide_eq_false (show ¬ (l.length : Int) < (m : Int) by omega), if_f]
      refine ⟨ev, s, rfl, hg, ?_, ?_, Nat.le_refl _, fun r _ _ _ => rfl⟩
      · rw [show m - l.length = 0 by omega]; simpa [rdNums] using hev
      · rw [show m - l.length = 0 by omega]; exact hr
end
end Go.Proofs.Ytkfdgegmahbkiaa.Sim
namespace Go.Proofs.Ytkfdgegmahbkiaa.Sim
set_option linter.unusedSimpArgs false
set_option linter.unusedVariables false

def setF (x : FI) (j : Nat) (n : Int) : FI :=
  if j = 3 then { x with idf := n } else if j = 4 then { x with ids := n } else if j = 5 then { x with seq := n } else if j = 6 then { x with at_ := n } else if j = 7 then { x with of_ := n }
  else if j = 8 then { x with size := n } else if j = 9 then { x with inst := n } else { x with round := n }
def rdStep (o : WOp) (q : FI × List Int × Int) : FI × List Int × Int :=
  match o with
  | .num j => (setF q.1 j (rdNum q.2.1 q.2.2 18446744073709551615).1, (rdNum q.2.1 q.2.2 18446744073709551615).2)
  | .small j => (setF q.1 j (rdNum q.2.1 q.2.2 4294967295).1, (rdNum q.2.1 q.2.2 4294967295).2)
  | .who j => (setF q.1 j (rdNum q.2.1 q.2.2 255).1, (rdNum q.2.1 q.2.2 255).2)
  | .data _ => ({ q.1 with data := (rdRow q.2.1 q.2.2 65536).1 }, (rdRow q.2.1 q.2.2 65536).2)
  | .runs j => (if j = 11 then { q.1 with est := (rdRuns (rdNum q.2.1 q.2.2 64).1.toNat (rdNum q.2.1 q.2.2 64).2.1 (rdNum q.2.1 q.2.2 64).2.2).1 } else { q.1 with aux := (rdRuns (rdNum q.2.1 q.2.2 64).1.toNat (rdNum q.2.1 q.2.2 64).2.1 (rdNum q.2.1 q.2.2 64).2.2).1 },
      (rdRuns (rdNum q.2.1 q.2.2 64).1.toNat (rdNum q.2.1 q.2.2 64).2.1 (rdNum q.2.1 q.2.2 64).2.2).2)
  | .nums j => (if j = 13 then { q.1 with done := (rdNums (rdNum q.2.1 q.2.2 64).1.toNat (rdNum q.2.1 q.2.2 64).2.1 (rdNum q.2.1 q.2.2 64).2.2).1 } else { q.1 with held := (rdNums (rdNum q.2.1 q.2.2 64).1.toNat (rdNum q.2.1 q.2.2 64).2.1 (rdNum q.2.1 q.2.2 64).2.2).1 },
      (rdNums (rdNum q.2.1 q.2.2 64).1.toNat (rdNum q.2.1 q.2.2 64).2.1 (rdNum q.2.1 q.2.2 64).2.2).2)
def goodOp : WOp → Prop
  | .num j => j = 4 ∨ j = 5 ∨ j = 9 ∨ j = 10
  | .small j => j = 6 ∨ j = 7 ∨ j = 8
  | .who j => j = 3
  | .data j => j = 15
  | .runs j => j = 11 ∨ j = 12
  | .nums j => j = 13 ∨ j = 14
theorem wopsOf_good (kd : Int) : (∀ o ∈ wopsOf kd, goodOp o) ∧ (wopsOf kd).Nodup := by
  unfold wopsOf
  repeat' split
  all_goals exact ⟨by simp [goodOp], by decide⟩

/-- Within what a frame's fields can be. -/
structure WfF (x : FI) : Prop where
  kd : 0 ≤ x.kd ∧ x.kd < 256
  src : 0 ≤ x.src ∧ x.src < 256
  dst : 0 ≤ x.dst ∧ x.dst < 256
  idf : 0 ≤ x.idf ∧ x.idf < 256
  ids : 0 ≤ x.ids ∧ x.ids < 18446744073709551616
  seq : 0 ≤ x.seq ∧ x.seq < 18446744073709551616
  at_ : 0 ≤ x.at_ ∧ x.at_ < 4294967296
  of_ : 0 ≤ x.of_ ∧ x.of_ < 4294967296
  size : 0 ≤ x.size ∧ x.size < 4294967296
  inst : 0 ≤ x.inst ∧ x.inst < 18446744073709551616
  round : 0 ≤ x.round ∧ x.round < 18446744073709551616
  est : ∀ r ∈ x.est, WfR r
  estL : x.est.length ≤ 100
  aux : ∀ r ∈ x.aux, WfR r
  auxL : x.aux.length ≤ 100
  done : ∀ n ∈ x.done, 0 ≤ n ∧ n < 18446744073709551616
  doneL : x.done.length ≤ 100
  held : ∀ n ∈ x.held, 0 ≤ n ∧ n < 18446744073709551616
  heldL : x.held.length ≤ 100
  data : ∀ n ∈ x.data, 0 ≤ n ∧ n < 256
  dataL : x.data.length ≤ 65536
theorem rdRuns_ok : ∀ (n : Nat) (b : List Int) (e : Int), (∀ x ∈ b, 0 ≤ x ∧ x < 256) → (∀ r ∈ (rdRuns n b e).1, WfR r) ∧ (∀ x ∈ (rdRuns n b e).2.1, 0 ≤ x ∧ x < 256) ∧ (rdRuns n b e).2.1.length ≤ b.length
  | 0, b, e, hu => ⟨fun r hr => (nomatch hr), hu, Nat.le_refl _⟩
  | n + 1, b, e, hu => by
    have u1 := rdNum_u8 (e := e) (most := 255) hu
    have u2 := rdNum_u8 (e := (rdNum b e 255).2.2) (most := 18446744073709551615) u1
    have u3 := rdNum_u8 (e := (rdNum (rdNum b e 255).2.1 (rdNum b e 255).2.2 18446744073709551615).2.2) (most := 18446744073709551615) u2
    have l1 := rdNum_len (b := b) (e := e) (most := 255)
    have l2 := rdNum_len (b := (rdNum b e 255).2.1) (e := (rdNum b e 255).2.2) (most := 18446744073709551615)
    have l3 := rdNum_len (b := (rdNum (rdNum b e 255).2.1 (rdNum b e 255).2.2 18446744073709551615).2.1) (e := (rdNum (rdNum b e 255).2.1 (rdNum b e 255).2.2 18446744073709551615).2.2) (most := 18446744073709551615)
    obtain ⟨i1, i2, i3⟩ := rdRuns_ok n (rdRun b e).2.1 (rdRun b e).2.2 u3
    refine ⟨fun r hr => ?_, i2, Nat.le_trans i3 (Nat.le_trans l3 (Nat.le_trans l2 l1))⟩
    rcases List.mem_cons.1 hr with rfl | hr
    · have b1 := rdNum_bnd hu e (most := 255) (by omega)
      have b2 := rdNum_bnd u1 (rdNum b e 255).2.2 (most := 18446744073709551615) (by omega)
      have b3 := rdNum_bnd u2 (rdNum (rdNum b e 255).2.1 (rdNum b e 255).2.2 18446744073709551615).2.2 (most := 18446744073709551615) (by omega)
      unfold WfR
      exact ⟨⟨b1.1, by show (rdNum b e 255).1 < 256; omega⟩, ⟨b2.1, by show (rdNum (rdNum b e 255).2.1 (rdNum b e 255).2.2 18446744073709551615).1 < 18446744073709551616; omega⟩, b3.1, by show (rdNum (rdNum (rdNum b e 255).2.1 (rdNum b e 255).2.2 18446744073709551615).2.1 _ 18446744073709551615).1 < 18446744073709551616; omega⟩
    · exact i1 r hr
theorem rdNums_ok : ∀ (n : Nat) (b : List Int) (e : Int), (∀ x ∈ b, 0 ≤ x ∧ x < 256) → (∀ r ∈ (rdNums n b e).1, 0 ≤ r ∧ r < 18446744073709551616) ∧ (∀ x ∈ (rdNums n b e).2.1, 0 ≤ x ∧ x < 256) ∧ (rdNums n b e).2.1.length ≤ b.length
  | 0, b, e, hu => ⟨fun r hr => (nomatch hr), hu, Nat.le_refl _⟩
  | n + 1, b, e, hu => by
    have u1 := rdNum_u8 (e := e) (most := 18446744073709551615) hu
    have l1 := rdNum_len (b := b) (e := e) (most := 18446744073709551615)
    obtain ⟨i1, i2, i3⟩ := rdNums_ok n (rdNum b e 18446744073709551615).2.1 (rdNum b e 18446744073709551615).2.2 u1
    refine ⟨fun r hr => ?_, i2, Nat.le_trans i3 l1⟩
    rcases List.mem_cons.1 hr with rfl | hr
    · have b1 := rdNum_bnd hu e (most := 18446744073709551615) (by omega)
      exact ⟨b1.1, by omega⟩
    · exact i1 r hr

theorem rdRow_val {b : List Int} {e most : Int} (hu : ∀ x ∈ b, 0 ≤ x ∧ x < 256) : ∀ x ∈ (rdRow b e most).1, 0 ≤ x ∧ x < 256 := by
  have hn := numR_left_u8 (b := b) (most := 18446744073709551615) hu
  unfold rdRow
  repeat' split
  all_goals first | (intro x hx; cases hx; done) | (intro x hx; exact hn x (List.mem_of_mem_take hx))
theorem rdRow_most {b : List Int} {e : Int} : (rdRow b e 65536).1.length ≤ 65536 := by
  unfold rdRow
  repeat' split
  all_goals first | (simp; done) | (simp only [List.length_take]; omega)
structure AVs where
  e : AV
  a : AV
  d : AV
  h : AV
  b : AV
structure RI (F rd : Nat) (s0 : Store) (kd : Int) (c : AVs) (q : FI × List Int × Int) (rem : List WOp) (s : Store) : Prop where
  row : s.get F = .cells (fcl q.1 c.e c.a c.d c.h c.b) false
  lt : F < s.next
  kd : q.1.kd = kd
  est : IsRuns s c.e q.1.est
  aux : IsRuns s c.a q.1.aux
  done : IsV s c.d .u64 q.1.done
  held : IsV s c.h .u64 q.1.held
  data : IsV s c.b .u8 q.1.data
  off : offP F rd c.e ∧ offP F rd c.a ∧ offP F rd c.d ∧ offP F rd c.h ∧ offP F rd c.b
  rdr : IsRd s rd q.2.1 q.2.2 (fun i => i ≠ F)
  u8 : ∀ x ∈ q.2.1, 0 ≤ x ∧ x < 256
  len : q.2.1.length ≤ 100000
  good : ∀ o ∈ rem, goodOp o
  nd : rem.Nodup
  n11 : .runs 11 ∈ rem → c.e = .nilsl
  n12 : .runs 12 ∈ rem → c.a = .nilsl
  n13 : .nums 13 ∈ rem → c.d = .nilsl
  n14 : .nums 14 ∈ rem → c.h = .nilsl
  fr : FrP F rd s0 s
  wf : WfF q.1
theorem IsRd.lt {s : Store} {rd F : Nat} {b : List Int} {e : Int} (h : IsRd s rd b e (fun i => i ≠ F)) : IsRd s rd b e (fun i => i ≠ F ∧ i < s.next) ∧ rd < s.next ∧ F ≠ rd := by
  obtain ⟨bv, h1, h2, h3, h4, h5⟩ := h
  refine ⟨⟨bv, h1, h2, ⟨h3, h2⟩, h4, fun i x c d f q => ⟨(h5 i x c d f q).1, (h5 i x c d f q).2, ?_⟩⟩, h2, Ne.symm h3⟩
  rcases h4 with ⟨q2, _⟩ | ⟨l, of, ys, ro, q2, q3, _⟩
  · rw [q2] at q; cases q
  · rw [q2] at q; cases q; exact q3

section
variable {F rd : Nat} {s0 s s' : Store} {kd : Int} {c : AVs} {q : FI × List Int × Int} {rem : List WOp} {op : WOp}
/-- A number's field. -/
theorem RI.put (h : RI F rd s0 kd c q (op :: rem) s) (e : FrP F rd s s') {x' : FI} {b' : List Int} {e' : Int} (hrow : s'.get F = .cells (fcl x' c.e c.a c.d c.h c.b) false) (hkd : x'.kd = q.1.kd) (h1 : x'.est = q.1.est) (h2 : x'.aux = q.1.aux) (h3 : x'.done = q.1.done) (h4 : x'.held = q.1.held) (h5 : x'.data = q.1.data) (hrd : IsRd s' rd b' e' (fun i => i ≠ F)) (hu : ∀ x ∈ b', 0 ≤ x ∧ x < 256) (hl : b'.length ≤ q.2.1.length) (hwf : WfF x') : RI F rd s0 kd c (x', b', e') rem s' :=
  ⟨hrow, Nat.lt_of_lt_of_le h.lt e.next, hkd.trans h.kd, h1 ▸ h.est.frP e h.off.1, h2 ▸ h.aux.frP e h.off.2.1, h3 ▸ h.done.frP e h.off.2.2.1, h4 ▸ h.held.frP e h.off.2.2.2.1, h5 ▸ h.data.frP e h.off.2.2.2.2, h.off, hrd, hu, Nat.le_trans hl h.len, fun o ho => h.good o (List.mem_cons_of_mem _ ho), (List.nodup_cons.1 h.nd).2,
    fun z => h.n11 (List.mem_cons_of_mem _ z), fun z => h.n12 (List.mem_cons_of_mem _ z), fun z => h.n13 (List.mem_cons_of_mem _ z), fun z => h.n14 (List.mem_cons_of_mem _ z), h.fr.trans e, hwf⟩

theorem rd_step (op : WOp) (rem : List WOp) (q : FI × List Int × Int) (s : Store) (k : Nat) (hk : 1200 ≤ k) (hk2 : k ≤ 80000) (h : ∃ c, RI F rd s0 kd c q (op :: rem) s) : ∃ w s', callOp (.iface 50 (.agg [.ptr rd 0 2])) F k op s = some (w, s') ∧ ∃ c, RI F rd s0 kd c (rdStep op q) rem s' := by
  obtain ⟨c, h⟩ := h
  obtain ⟨k, rfl⟩ : ∃ z, k = z + 4 := ⟨k - 4, by omega⟩
  have hg := h.good op List.mem_cons_self
  have hb : q.2.1.length ≤ 1000000 := Nat.le_trans h.len (by omega)
  have hnq : ¬ (fun i => i ≠ F) F := fun z => z rfl
  have w := h.wf
  cases op with
  | num j =>
    unfold callOp
    simp only [inv_rd_num]
    have hj : j < 16 := by rcases hg with z | z | z | z <;> omega
    obtain ⟨s', r1, r2, r3, r4⟩ := rd_num_at (off := j) h.rdr h.u8 hb h.row (fcl_len _ _ _ _ _ _) hj h.lt hnq (k + 1) (by omega)
    rw [r1, bnd]
    have hn := rdNum_bnd h.u8 q.2.2 (most := 18446744073709551615) (by omega)
    refine ⟨_, s', rfl, c, h.put r4 (r2.trans ?_) ?_ ?_ ?_ ?_ ?_ ?_ r3 (rdNum_u8 h.u8) rdNum_len ?_⟩ <;> rcases hg with rfl | rfl | rfl | rfl <;> first | rfl | skip
    · exact { w with ids := ⟨hn.1, by simp only [setF]; simp; omega⟩ }
    · exact { w with seq := ⟨hn.1, by simp only [setF]; simp; omega⟩ }
    · exact { w with inst := ⟨hn.1, by simp only [setF]; simp; omega⟩ }
    · exact { w with round := ⟨hn.1, by simp only [setF]; simp; omega⟩ }
  | small j =>
    unfold callOp
    simp only [inv_rd_small]
    have hj : j < 16 := by rcases hg with z | z | z <;> omega
    obtain ⟨s', r1, r2, r3, r4⟩ := rd_small_at (off := j) h.rdr h.u8 hb h.row (fcl_len _ _ _ _ _ _) hj h.lt hnq (k + 1) (by omega)
    rw [r1, bnd]
    have hn := rdNum_bnd h.u8 q.2.2 (most := 4294967295) (by omega)
    refine ⟨_, s', rfl, c, h.put r4 (r2.trans ?_) ?_ ?_ ?_ ?_ ?_ ?_ r3 (rdNum_u8 h.u8) rdNum_len ?_⟩ <;> rcases hg with rfl | rfl | rfl <;> first | rfl | skip
    · exact { w with at_ := ⟨hn.1, by simp only [setF]; simp; omega⟩ }
    · exact { w with of_ := ⟨hn.1, by simp only [setF]; simp; omega⟩ }
    · exact { w with size := ⟨hn.1, by simp only [setF]; simp; omega⟩ }
  | who j =>
    unfold callOp
    simp only [inv_rd_who]
    have hj : j < 16 := by have : j = 3 := hg; omega
    obtain ⟨s', r1, r2, r3, r4⟩ := rd_who_at (off := j) h.rdr h.u8 hb h.row (fcl_len _ _ _ _ _ _) hj h.lt hnq (k + 1) (by omega)
    rw [r1, bnd]
    have hn := rdNum_bnd h.u8 q.2.2 (most := 255) (by omega)
    have hg : j = 3 := hg
    subst hg
    exact ⟨_, s', rfl, c, h.put r4 r2 rfl rfl rfl rfl rfl rfl r3 (rdNum_u8 h.u8) rdNum_len { w with idf := ⟨hn.1, by simp only [setF]; simp; omega⟩ }⟩
  | data j =>
    unfold callOp
    simp only [inv_rd_data]
    have hg : j = 15 := hg
    subst hg
    obtain ⟨v, s', r1, r2, r3, r4, r5, r6⟩ := rd_data_at (off := 15) h.rdr h.u8 hb h.row (fcl_len _ _ _ _ _ _) (by omega) h.lt hnq (fun ys z => by
      have z0 : (fcl q.1 c.e c.a c.d c.h c.b)[4]? = (ys.map (AV.int .u8))[4]? := by rw [z]
      rw [List.getElem?_map] at z0
      have z1 : (fcl q.1 c.e c.a c.d c.h c.b)[4]? = some (AV.int .u64 q.1.ids) := rfl
      rw [z1] at z0
      cases hy : ys[4]? with
      | none => rw [hy] at z0; cases z0
      | some y => rw [hy] at z0; injection z0 with z0; injection z0 with z0; cases z0) (k + 1) (by omega)
    rw [r1, bnd]
    refine ⟨_, s', rfl, { c with b := v }, ?_⟩
    exact ⟨r2, Nat.lt_of_lt_of_le h.lt r6.next, h.kd, h.est.frP r6 h.off.1, h.aux.frP r6 h.off.2.1, h.done.frP r6 h.off.2.2.1, h.held.frP r6 h.off.2.2.2.1, r3, ⟨h.off.1, h.off.2.1, h.off.2.2.1, h.off.2.2.2.1, r4⟩, r5, rdRow_u8 h.u8, Nat.le_trans rdRow_len h.len, fun o ho => h.good o (List.mem_cons_of_mem _ ho), (List.nodup_cons.1 h.nd).2,
      fun z => h.n11 (List.mem_cons_of_mem _ z), fun z => h.n12 (List.mem_cons_of_mem _ z), fun z => h.n13 (List.mem_cons_of_mem _ z), fun z => h.n14 (List.mem_cons_of_mem _ z), h.fr.trans r6, { w with data := rdRow_val h.u8, dataL := rdRow_most }⟩
  | runs j =>
    unfold callOp
    simp only
    rw [F48.eq]
    unfold F48.f F48.p10
    have hj : j < 16 := by rcases hg with z | z <;> omega
    have hcell : (fcl q.1 c.e c.a c.d c.h c.b)[j]? = some .nilsl := by
      rcases hg with rfl | rfl
      · rw [← h.n11 List.mem_cons_self]; rfl
      · rw [← h.n12 List.mem_cons_self]; rfl
    have hself : (fcl q.1 c.e c.a c.d c.h c.b).set j .nilsl = fcl q.1 c.e c.a c.d c.h c.b := by
      rcases hg with rfl | rfl
      · have := h.n11 List.mem_cons_self; show fcl q.1 .nilsl c.a c.d c.h c.b = _; rw [this]
      · have := h.n12 List.mem_cons_self; show fcl q.1 c.e .nilsl c.d c.h c.b = _; rw [this]
    have ld : ∀ f : AV → Rz, aLoad1 (.ptr F j 16) s f = f .nilsl := fun f => load_1 h.row (fcl_len _ _ _ _ _ _) hcell
    obtain ⟨s1, r1, r2, r3⟩ := rd_many h.rdr h.u8 hb (.int .i64 0) k (by omega)
    simp only [bnd, nil_p, ld, len_nil, nil_m meth_50.many, inv_rd_many, r1]
    unfold F48.p9
    have hn := rdNum_bnd h.u8 q.2.2 (most := 64) (by omega)
    have hni : (rdNum q.2.1 q.2.2 64).1 = (((rdNum q.2.1 q.2.2 64).1.toNat : Nat) : Int) := by omega
    obtain ⟨hr1, hrlt, hFr⟩ := r2.lt
    have hF1 : F < s1.next := Nat.lt_of_lt_of_le h.lt r3.next
    have hrow1 : s1.get F = .cells ((fcl q.1 c.e c.a c.d c.h c.b).set j .nilsl) false := by rw [hself, r3.get F h.lt hFr]; exact h.row
    have u1 := rdNum_u8 (e := q.2.2) (most := 64) h.u8
    have l1 := rdNum_len (b := q.2.1) (e := q.2.2) (most := 64)
    obtain ⟨ev', s', g1, g2, g3, g4, g5, g6⟩ := runs_loop k (by omega) (fcl_len _ _ _ _ _ _) hj hF1 hrlt hFr (m := (rdNum q.2.1 q.2.2 64).1.toNat) (by omega) (k + 3) s1 .nilsl [] _ _ (Nat.le_refl _) hrow1 (OwnL.nil _ _ _ _) hr1 u1 (Nat.le_trans l1 hb) (by simp) (by simp; omega)
    rw [List.length_nil, Int.natCast_zero, ← hni] at g1
    simp only [List.length_nil, Nat.sub_zero, List.nil_append] at g3 g4
    rw [g1]
    have e2 : FrP F rd s s' := ⟨Nat.le_trans r3.next g5, fun l hl z1 z2 => by rw [g6 l (Nat.lt_of_lt_of_le hl r3.next) z1 z2, r3.get l hl z2]⟩
    obtain ⟨o1, o2, o3⟩ := rdRuns_ok (rdNum q.2.1 q.2.2 64).1.toNat _ (rdNum q.2.1 q.2.2 64).2.2 u1
    have hlen := rdRuns_len (rdNum q.2.1 q.2.2 64).1.toNat (rdNum q.2.1 q.2.2 64).2.1 (rdNum q.2.1 q.2.2 64).2.2
    have hoff : offP F rd ev' := by
      intro i b n d f z
      rcases g3 with ⟨z1, _⟩ | ⟨id, z1, z2, _⟩
      · rw [z1] at z; cases z
      · rw [z1] at z; cases z; omega
    have hrd' : IsRd s' rd (rdRuns (rdNum q.2.1 q.2.2 64).1.toNat (rdNum q.2.1 q.2.2 64).2.1 (rdNum q.2.1 q.2.2 64).2.2).2.1 (rdRuns (rdNum q.2.1 q.2.2 64).1.toNat (rdNum q.2.1 q.2.2 64).2.1 (rdNum q.2.1 q.2.2 64).2.2).2.2 (fun i => i ≠ F) := g4.mono fun i z => z.1
    have hnd := List.nodup_cons.1 h.nd
    rcases hg with rfl | rfl
    · refine ⟨_, s', rfl, { c with e := ev' }, ?_⟩
      exact ⟨g2, Nat.lt_of_lt_of_le h.lt e2.next, h.kd, g3.is, h.aux.frP e2 h.off.2.1, h.done.frP e2 h.off.2.2.1, h.held.frP e2 h.off.2.2.2.1, h.data.frP e2 h.off.2.2.2.2, ⟨hoff, h.off.2⟩, hrd', o2, Nat.le_trans o3 (Nat.le_trans l1 h.len), fun o ho => h.good o (List.mem_cons_of_mem _ ho), hnd.2,
        fun z => absurd z hnd.1, fun z => h.n12 (List.mem_cons_of_mem _ z), fun z => h.n13 (List.mem_cons_of_mem _ z), fun z => h.n14 (List.mem_cons_of_mem _ z), h.fr.trans e2, { w with est := o1, estL := Nat.le_trans (Nat.le_of_eq hlen) (by omega) }⟩
    · refine ⟨_, s', rfl, { c with a := ev' }, ?_⟩
      exact ⟨g2, Nat.lt_of_lt_of_le h.lt e2.next, h.kd, h.est.frP e2 h.off.1, g3.is, h.done.frP e2 h.off.2.2.1, h.held.frP e2 h.off.2.2.2.1, h.data.frP e2 h.off.2.2.2.2, ⟨h.off.1, hoff, h.off.2.2⟩, hrd', o2, Nat.le_trans o3 (Nat.le_trans l1 h.len), fun o ho => h.good o (List.mem_cons_of_mem _ ho), hnd.2,
        fun z => h.n11 (List.mem_cons_of_mem _ z), fun z => absurd z hnd.1, fun z => h.n13 (List.mem_cons_of_mem _ z), fun z => h.n14 (List.mem_cons_of_mem _ z), h.fr.trans e2, { w with aux := o1, auxL := Nat.le_trans (Nat.le_of_eq hlen) (by omega) }⟩
  | nums j =>
    unfold callOp
    simp only
    rw [F49.eq]
    unfold F49.f F49.p7
    have hj : j < 16 := by rcases hg with z | z <;> omega
    have hcell : (fcl q.1 c.e c.a c.d c.h c.b)[j]? = some .nilsl := by
      rcases hg with rfl | rfl
      · rw [← h.n13 List.mem_cons_self]; rfl
      · rw [← h.n14 List.mem_cons_self]; rfl
    have hself : (fcl q.1 c.e c.a c.d c.h c.b).set j .nilsl = fcl q.1 c.e c.a c.d c.h c.b := by
      rcases hg with rfl | rfl
      · have := h.n13 List.mem_cons_self; show fcl q.1 c.e c.a .nilsl c.h c.b = _; rw [this]
      · have := h.n14 List.mem_cons_self; show fcl q.1 c.e c.a c.d .nilsl c.b = _; rw [this]
    have ld : ∀ f : AV → Rz, aLoad1 (.ptr F j 16) s f = f .nilsl := fun f => load_1 h.row (fcl_len _ _ _ _ _ _) hcell
    obtain ⟨s1, r1, r2, r3⟩ := rd_many h.rdr h.u8 hb (.int .i64 0) k (by omega)
    simp only [bnd, nil_p, ld, len_nil, nil_m meth_50.many, inv_rd_many, r1]
    unfold F49.p6
    have hn := rdNum_bnd h.u8 q.2.2 (most := 64) (by omega)
    have hni : (rdNum q.2.1 q.2.2 64).1 = (((rdNum q.2.1 q.2.2 64).1.toNat : Nat) : Int) := by omega
    obtain ⟨hr1, hrlt, hFr⟩ := r2.lt
    have hF1 : F < s1.next := Nat.lt_of_lt_of_le h.lt r3.next
    have hrow1 : s1.get F = .cells ((fcl q.1 c.e c.a c.d c.h c.b).set j .nilsl) false := by rw [hself, r3.get F h.lt hFr]; exact h.row
    have u1 := rdNum_u8 (e := q.2.2) (most := 64) h.u8
    have l1 := rdNum_len (b := q.2.1) (e := q.2.2) (most := 64)
    obtain ⟨ev', s', g1, g2, g3, g4, g5, g6⟩ := nums_loop k (by omega) (fcl_len _ _ _ _ _ _) hj hF1 hrlt hFr (m := (rdNum q.2.1 q.2.2 64).1.toNat) (by omega) (k + 3) s1 .nilsl [] _ _ (Nat.le_refl _) hrow1 (.inl ⟨rfl, rfl⟩) hr1 u1 (Nat.le_trans l1 hb) (by simp) (by simp; omega)
    rw [List.length_nil, Int.natCast_zero, ← hni] at g1
    simp only [List.length_nil, Nat.sub_zero, List.nil_append] at g3 g4
    rw [g1]
    have e2 : FrP F rd s s' := ⟨Nat.le_trans r3.next g5, fun l hl z1 z2 => by rw [g6 l (Nat.lt_of_lt_of_le hl r3.next) z1 z2, r3.get l hl z2]⟩
    obtain ⟨o1, o2, o3⟩ := rdNums_ok (rdNum q.2.1 q.2.2 64).1.toNat _ (rdNum q.2.1 q.2.2 64).2.2 u1
    have hlen := rdNums_len (rdNum q.2.1 q.2.2 64).1.toNat (rdNum q.2.1 q.2.2 64).2.1 (rdNum q.2.1 q.2.2 64).2.2
    have hoff : offP F rd ev' := by
      intro i b n d f z
      rcases g3 with ⟨z1, _⟩ | ⟨id, z1, z2, _⟩
      · rw [z1] at z; cases z
      · rw [z1] at z; cases z; omega
    have hrd' : IsRd s' rd (rdNums (rdNum q.2.1 q.2.2 64).1.toNat (rdNum q.2.1 q.2.2 64).2.1 (rdNum q.2.1 q.2.2 64).2.2).2.1 (rdNums (rdNum q.2.1 q.2.2 64).1.toNat (rdNum q.2.1 q.2.2 64).2.1 (rdNum q.2.1 q.2.2 64).2.2).2.2 (fun i => i ≠ F) := g4.mono fun i z => z.1
    have hnd := List.nodup_cons.1 h.nd
    rcases hg with rfl | rfl
    · refine ⟨_, s', rfl, { c with d := ev' }, ?_⟩
      exact ⟨g2, Nat.lt_of_lt_of_le h.lt e2.next, h.kd, h.est.frP e2 h.off.1, h.aux.frP e2 h.off.2.1, g3.is, h.held.frP e2 h.off.2.2.2.1, h.data.frP e2 h.off.2.2.2.2, ⟨h.off.1, h.off.2.1, hoff, h.off.2.2.2⟩, hrd', o2, Nat.le_trans o3 (Nat.le_trans l1 h.len), fun o ho => h.good o (List.mem_cons_of_mem _ ho), hnd.2,
        fun z => h.n11 (List.mem_cons_of_mem _ z), fun z => h.n12 (List.mem_cons_of_mem _ z), fun z => absurd z hnd.1, fun z => h.n14 (List.mem_cons_of_mem _ z), h.fr.trans e2, { w with done := o1, doneL := Nat.le_trans (Nat.le_of_eq hlen) (by omega) }⟩
    · refine ⟨_, s', rfl, { c with h := ev' }, ?_⟩
      exact ⟨g2, Nat.lt_of_lt_of_le h.lt e2.next, h.kd, h.est.frP e2 h.off.1, h.aux.frP e2 h.off.2.1, h.done.frP e2 h.off.2.2.1, g3.is, h.data.frP e2 h.off.2.2.2.2, ⟨h.off.1, h.off.2.1, h.off.2.2.1, hoff, h.off.2.2.2.2⟩, hrd', o2, Nat.le_trans o3 (Nat.le_trans l1 h.len), fun o ho => h.good o (List.mem_cons_of_mem _ ho), hnd.2,
        fun z => h.n11 (List.mem_cons_of_mem _ z), fun z => h.n12 (List.mem_cons_of_mem _ z), fun z => h.n13 (List.mem_cons_of_mem _ z), fun z => absurd z hnd.1, h.fr.trans e2, { w with held := o1, heldL := Nat.le_trans (Nat.le_of_eq hlen) (by omega) }⟩
/-- A frame's fields, read. -/
theorem rd_visit (k : Nat) (h1 : 1200 ≤ k) (h2 : k ≤ 79990) (h : ∃ c, RI F rd s0 kd c q (wopsOf kd) s) : ∃ s', rn (k + 3) 19 [.ptr F 0 16, .iface 50 (.agg [.ptr rd 0 2])] s = some (.tuple [], s') ∧ ∃ c, RI F rd s0 kd c ((wopsOf kd).foldl (fun st op => rdStep op st) q) [] s' :=
  visit_run (I := fun q rem s => ∃ c, RI F rd s0 kd c q rem s) meth_50 (fun st rem s ⟨c, h⟩ => ⟨_, h.row, fcl_len _ _ _ _ _ _, by show some (AV.int .u8 st.1.kd) = _; rw [h.kd]⟩) rd_step k h1 h2 q s h
end
end Go.Proofs.Ytkfdgegmahbkiaa.Sim
namespace Go.Proofs.Ytkfdgegmahbkiaa.Sim
set_option linter.unusedSimpArgs false
set_option linter.unusedVariables false

/-- Cells of a frame's row, loaded. -/
structure FLd (s : Store) (F : Nat) (x : FI) (c : AVs) : Prop where
  l0 : ∀ {α : Type} (f : AV → Option α), aLoad1 (.ptr F 0 16) s f = f (.int .u8 x.kd)
  l1 : ∀ {α : Type} (f : AV → Option α), aLoad1 (.ptr F 1 16) s f = f (.int .u8 x.src)
  l2 : ∀ {α : Type} (f : AV → Option α), aLoad1 (.ptr F 2 16) s f = f (.int .u8 x.dst)
  l3 : ∀ {α : Type} (f : AV → Option α), aLoad1 (.ptr F 3 16) s f = f (.int .u8 x.idf)
  l4 : ∀ {α : Type} (f : AV → Option α), aLoad1 (.ptr F 4 16) s f = f (.int .u64 x.ids)
  n3 : ∀ {α : Type} (f : AV → Option α), aLoadN 2 (.ptr F 3 16) s f = f (.agg [.int .u8 x.idf, .int .u64 x.ids])
  l5 : ∀ {α : Type} (f : AV → Option α), aLoad1 (.ptr F 5 16) s f = f (.int .u64 x.seq)
  l6 : ∀ {α : Type} (f : AV → Option α), aLoad1 (.ptr F 6 16) s f = f (.int .u32 x.at_)
  l7 : ∀ {α : Type} (f : AV → Option α), aLoad1 (.ptr F 7 16) s f = f (.int .u32 x.of_)
  l8 : ∀ {α : Type} (f : AV → Option α), aLoad1 (.ptr F 8 16) s f = f (.int .u32 x.size)
  l9 : ∀ {α : Type} (f : AV → Option α), aLoad1 (.ptr F 9 16) s f = f (.int .u64 x.inst)
  l10 : ∀ {α : Type} (f : AV → Option α), aLoad1 (.ptr F 10 16) s f = f (.int .u64 x.round)
  l11 : ∀ {α : Type} (f : AV → Option α), aLoad1 (.ptr F 11 16) s f = f c.e
  l12 : ∀ {α : Type} (f : AV → Option α), aLoad1 (.ptr F 12 16) s f = f c.a
  l13 : ∀ {α : Type} (f : AV → Option α), aLoad1 (.ptr F 13 16) s f = f c.d
  l14 : ∀ {α : Type} (f : AV → Option α), aLoad1 (.ptr F 14 16) s f = f c.h
  l15 : ∀ {α : Type} (f : AV → Option α), aLoad1 (.ptr F 15 16) s f = f c.b
  n16 : ∀ {α : Type} (f : AV → Option α), aLoadN 16 (.ptr F 0 16) s f = f (.agg (fcl x c.e c.a c.d c.h c.b))
theorem FLd.mk' {s : Store} {F : Nat} {x : FI} {c : AVs} {ro : Bool} (h : s.get F = .cells (fcl x c.e c.a c.d c.h c.b) ro) : FLd s F x c :=
  ⟨fun f => load_1 h rfl rfl, fun f => load_1 h rfl rfl, fun f => load_1 h rfl rfl, fun f => load_1 h rfl rfl, fun f => load_1 h rfl rfl, fun f => load_n h rfl (by omega), fun f => load_1 h rfl rfl, fun f => load_1 h rfl rfl, fun f => load_1 h rfl rfl, fun f => load_1 h rfl rfl, fun f => load_1 h rfl rfl, fun f => load_1 h rfl rfl, fun f => load_1 h rfl rfl, fun f => load_1 h rfl rfl, fun f => load_1 h rfl rfl, fun f => load_1 h rfl rfl, fun f => load_1 h rfl rfl, fun f => load_n h rfl (by omega)⟩

/-- A frame that lies in cells. -/
structure IsFc (s : Store) (c : AVs) (x : FI) : Prop where
  est : IsRuns s c.e x.est
  aux : IsRuns s c.a x.aux
  done : IsV s c.d .u64 x.done
  held : IsV s c.h .u64 x.held
  data : IsV s c.b .u8 x.data
theorem IsFc.ext {s s' : Store} {c : AVs} {x : FI} (h : IsFc s c x) (e : Ext s s') : IsFc s' c x := ⟨h.est.ext e, h.aux.ext e, h.done.ext e, h.held.ext e, h.data.ext e⟩
def fcs (x : FI) (c : AVs) : List AV := fcl x c.e c.a c.d c.h c.b

def kpStep (o : WOp) (x : FI) : FI :=
  match o with
  | .num j => setF x j 0
  | .small j => setF x j 0
  | .who j => setF x j 0
  | .data _ => { x with data := [] }
  | .runs _ => x
  | .nums _ => x
structure KI (F : Nat) (s0 : Store) (kd : Int) (c : AVs) (x : FI) (rem : List WOp) (s : Store) : Prop where
  row : s.get F = .cells (fcs x c) false
  lt : F < s.next
  kd : x.kd = kd
  fc : ∀ {s1 : Store}, Ext s0 s1 → IsFc s1 c x
  good : ∀ o ∈ rem, goodOp o
  fr : Fr1 F s0 s
section
variable {F : Nat} {s0 s : Store} {kd : Int}
theorem KI.put {c c' : AVs} {x x' : FI} {op : WOp} {rem : List WOp} (h : KI F s0 kd c x (op :: rem) s) {j : Nat} {v : AV} (hc : (fcs x c).set j v = fcs x' c') (hkd : x'.kd = x.kd) (hf : ∀ {s1 : Store}, Ext s0 s1 → IsFc s1 c' x') : KI F s0 kd c' x' rem ((s.push (.cells [] false)).set F (.cells ((fcs x c).set j v) false)) :=
  ⟨by rw [get_set, if_pos rfl, hc], Nat.lt_of_lt_of_le h.lt (Nat.le_succ _), hkd.trans h.kd, hf, fun o ho => h.good o (List.mem_cons_of_mem _ ho), h.fr.trans (((Ext.push s _).fr1 F).trans (Fr1.set _ _ _))⟩
theorem KI.stay {c : AVs} {x : FI} {op : WOp} {rem : List WOp} (h : KI F s0 kd c x (op :: rem) s) {s' : Store} (e : Ext s s') : KI F s0 kd c x rem s' :=
  ⟨(e.get F h.lt).trans h.row, Nat.lt_of_lt_of_le h.lt e.next, h.kd, h.fc, fun o ho => h.good o (List.mem_cons_of_mem _ ho), h.fr.trans (e.fr1 F)⟩
theorem kp_step (op : WOp) (rem : List WOp) (x : FI) (s : Store) (k : Nat) (hk : 1200 ≤ k) (hk2 : k ≤ 80000) (h : ∃ c, KI F s0 kd c x (op :: rem) s) : ∃ w s', callOp (.iface 107 (.agg [])) F k op s = some (w, s') ∧ ∃ c, KI F s0 kd c (kpStep op x) rem s' := by
  obtain ⟨c, h⟩ := h
  obtain ⟨k, rfl⟩ : ∃ z, k = z + 4 := ⟨k - 4, by omega⟩
  have hg := h.good op List.mem_cons_self
  have hpr : (s.push (.cells [] false)).get F = .cells (fcs x c) false := by rw [get_push, if_neg (by have := h.lt; omega)]; exact h.row
  have hst : ∀ (j : Nat) (v : AV), j < 16 → (∀ {α : Type} (f : List AV → Option α), aCells v f = f [v]) → ∀ f : Store → Rz, aStore 1 (.ptr F j 16) v (s.push (.cells [] false)) f = f ((s.push (.cells [] false)).set F (.cells ((fcs x c).set j v) false)) := fun j v hj hv f => st_cell hpr rfl hj hv f
  cases op with
  | num j =>
    unfold callOp
    have hj : j < 16 := by rcases hg with z | z | z | z <;> omega
    simp only [inv_kp_num]
    rw [F107.eq]
    unfold F107.f F107.p0
    rw [cells_agg, new_s, nil_p, hst j _ hj fun f => rfl]
    refine ⟨_, _, rfl, c, h.put ?_ ?_ fun e => ?_⟩ <;> rcases hg with rfl | rfl | rfl | rfl <;> first | rfl | exact ⟨(h.fc e).est, (h.fc e).aux, (h.fc e).done, (h.fc e).held, (h.fc e).data⟩
  | small j =>
    unfold callOp
    have hj : j < 16 := by rcases hg with z | z | z <;> omega
    simp only [inv_kp_small]
    rw [F108.eq]
    unfold F108.f F108.p0
    rw [cells_agg, new_s, nil_p, hst j _ hj fun f => rfl]
    refine ⟨_, _, rfl, c, h.put ?_ ?_ fun e => ?_⟩ <;> rcases hg with rfl | rfl | rfl <;> first | rfl | exact ⟨(h.fc e).est, (h.fc e).aux, (h.fc e).done, (h.fc e).held, (h.fc e).data⟩
  | who j =>
    unfold callOp
    have hj : j = 3 := hg
    subst hj
    simp only [inv_kp_who]
    rw [F109.eq]
    unfold F109.f F109.p0
    rw [cells_agg, new_s, nil_p, hst 3 _ (by omega) fun f => rfl]
    exact ⟨_, _, rfl, c, h.put rfl rfl fun e => ⟨(h.fc e).est, (h.fc e).aux, (h.fc e).done, (h.fc e).held, (h.fc e).data⟩⟩
  | data j =>
    unfold callOp
    have hj : j = 15 := hg
    subst hj
    simp only [inv_kp_data]
    rw [F105.eq]
    unfold F105.f F105.p0
    rw [cells_agg, new_s, nil_p, hst 15 _ (by omega) fun f => rfl]
    exact ⟨_, _, rfl, { c with b := .nilsl }, h.put rfl rfl fun e => ⟨(h.fc e).est, (h.fc e).aux, (h.fc e).done, (h.fc e).held, .inl ⟨rfl, rfl⟩⟩⟩
  | runs j =>
    unfold callOp
    simp only
    rw [F48.eq]
    unfold F48.f F48.p10
    have ld : ∃ v, (∀ f : AV → Rz, aLoad1 (.ptr F j 16) s f = f v) ∧ ∃ n : Nat, ∀ f : AV → Rz, aLen v f = f (.int .i64 (n : Int)) := by
      have hb := (h.fc (Ext.refl s0))
      rcases hg with rfl | rfl
      · exact ⟨c.e, fun f => load_1 h.row rfl rfl, x.est.length, fun f => len_runs hb.est f⟩
      · exact ⟨c.a, fun f => load_1 h.row rfl rfl, x.aux.length, fun f => len_runs hb.aux f⟩
    obtain ⟨v, ld, n, hn⟩ := ld
    have hm : rn (k + 3) 106 [.agg [], .int .i64 (n : Int)] s = some (.int .i64 0, s.push (.cells [] false)) := by
      rw [F106.eq]; rfl
    simp only [bnd, nil_p, ld, hn, nil_m meth_107.many, inv_kp_many, hm]
    unfold F48.p9
    have hs : F48.l0 (k + 3) (k + 2 + 1) = fun x0 x1 x16 x17 s => F48.p8 (k + 3) (F48.l0 (k + 3) (k + 2)) x0 x1 x16 x17 s := rfl
    rw [show k + 3 = k + 2 + 1 from rfl] at hs ⊢
    rw [hs]
    simp only
    unfold F48.p8 F48.p7
    rw [lss_i, decide_eq_false (show ¬ (0 : Int) < 0 by omega), if_f]
    exact ⟨_, _, rfl, c, h.stay (Ext.push _ _)⟩
  | nums j =>
    unfold callOp
    simp only
    rw [F49.eq]
    unfold F49.f F49.p7
    have ld : ∃ v, (∀ f : AV → Rz, aLoad1 (.ptr F j 16) s f = f v) ∧ ∃ n : Nat, ∀ f : AV → Rz, aLen v f = f (.int .i64 (n : Int)) := by
      have hb := (h.fc (Ext.refl s0))
      rcases hg with rfl | rfl
      · exact ⟨c.d, fun f => load_1 h.row rfl rfl, x.done.length, fun f => lenV hb.done f⟩
      · exact ⟨c.h, fun f => load_1 h.row rfl rfl, x.held.length, fun f => lenV hb.held f⟩
    obtain ⟨v, ld, n, hn⟩ := ld
    have hm : rn (k + 3) 106 [.agg [], .int .i64 (n : Int)] s = some (.int .i64 0, s.push (.cells [] false)) := by
      rw [F106.eq]; rfl
    simp only [bnd, nil_p, ld, hn, nil_m meth_107.many, inv_kp_many, hm]
    unfold F49.p6
    have hs : F49.l0 (k + 3) (k + 2 + 1) = fun x0 x1 x15 x16 s => F49.p5 (k + 3) (F49.l0 (k + 3) (k + 2)) x0 x1 x15 x16 s := rfl
    rw [show k + 3 = k + 2 + 1 from rfl] at hs ⊢
    rw [hs]
    simp only
    unfold F49.p5 F49.p4
    rw [lss_i, decide_eq_false (show ¬ (0 : Int) < 0 by omega), if_f]
    exact ⟨_, _, rfl, c, h.stay (Ext.push _ _)⟩
theorem kp_visit {x : FI} (k : Nat) (h1 : 1200 ≤ k) (h2 : k ≤ 79990) (h : ∃ c, KI F s0 kd c x (wopsOf kd) s) : ∃ s', rn (k + 3) 19 [.ptr F 0 16, .iface 107 (.agg [])] s = some (.tuple [], s') ∧ ∃ c, KI F s0 kd c ((wopsOf kd).foldl (fun st op => kpStep op st) x) [] s' :=
  visit_run (I := fun q rem s => ∃ c, KI F s0 kd c q rem s) meth_107 (fun st rem s ⟨c, h⟩ => ⟨_, h.row, rfl, by show some (AV.int .u8 st.kd) = _; rw [h.kd]⟩) kp_step k h1 h2 x s h
end

/-- Without the lists that a kind has. -/
def clrF (x : FI) : FI := if x.kd = 6 ∨ x.kd = 8 then { x with est := [] } else if x.kd = 7 then { x with est := [], aux := [] } else if x.kd = 9 then { x with done := [], held := [] } else x
def restF (x : FI) : FI := clrF ((wopsOf x.kd).foldl (fun st op => kpStep op st) x)
/-- Just the fields of its kind. -/
def bareB (x : FI) : Bool :=
  let z := restF x
  decide (z.idf = 0 ∧ z.ids = 0) && (z.seq == 0) && (z.at_ == 0) && (z.of_ == 0) && (z.size == 0) && (z.inst == 0) && (z.round == 0) && ((z.est.length : Int) + z.aux.length + z.done.length + z.held.length + z.data.length == 0)
theorem eq_2 (a b : Int) {α : Type} (f : Bool → Option α) : aEq (.struct [.int, .int]) (.agg [.int .u8 a, .int .u64 b]) (.agg [.int .u8 0, .int .u64 0]) f = f (decide (a = 0 ∧ b = 0)) := by
  simp only [aEq, eqCells, if_true, Option.map_some]
  congr 1
  by_cases h1 : a = 0 <;> by_cases h2 : b = 0 <;> simp [h1, h2]
section
variable {s : Store} {F : Nat} {z : FI} {c : AVs}
theorem bare_end (k : Nat) (hrow : s.get F = .cells (fcs z c) false) (hc : IsFc s c z) (hl : z.est.length ≤ 100 ∧ z.aux.length ≤ 100 ∧ z.done.length ≤ 100 ∧ z.held.length ≤ 100 ∧ z.data.length ≤ 65536) :
    F32.p0 k (.ptr F 0 16) s = some (.bool (decide (z.idf = 0 ∧ z.ids = 0) && (z.seq == 0) && (z.at_ == 0) && (z.of_ == 0) && (z.size == 0) && (z.inst == 0) && (z.round == 0) && ((z.est.length : Int) + z.aux.length + z.done.length + z.held.length + z.data.length == 0)), s) := by
  have L := FLd.mk' hrow
  obtain ⟨q1, q2, q3, q4, q5⟩ := hl
  have hb2 : ∀ {α : Type} (f : List AV → Option α), aBuild [] [AV.int .u8 0, AV.int .u64 0] f = f [AV.int .u8 0, AV.int .u64 0] := fun f => rfl
  have w1 : IntKind.i64.wrap ((z.est.length : Int) + (z.aux.length : Int)) = (z.est.length : Int) + z.aux.length := w_i64 (by omega) (by omega)
  have w2 : IntKind.i64.wrap ((z.est.length : Int) + (z.aux.length : Int) + (z.done.length : Int)) = (z.est.length : Int) + z.aux.length + z.done.length := w_i64 (by omega) (by omega)
  have w3 : IntKind.i64.wrap ((z.est.length : Int) + (z.aux.length : Int) + (z.done.length : Int) + (z.held.length : Int)) = (z.est.length : Int) + z.aux.length + z.done.length + z.held.length := w_i64 (by omega) (by omega)
  have w4 : IntKind.i64.wrap ((z.est.length : Int) + (z.aux.length : Int) + (z.done.length : Int) + (z.held.length : Int) + (z.data.length : Int)) = (z.est.length : Int) + z.aux.length + z.done.length + z.held.length + z.data.length := w_i64 (by omega) (by omega)
  unfold F32.p0
  simp only [fld_p, Nat.zero_add, L.n3, hb2, eq_2]
  cases decide (z.idf = 0 ∧ z.ids = 0) with
  | false => simp only [bnd, guard_tt, guard_ff, guard_tf, guard_ft, pick_t, pick_f, if_t, if_f, add_i, sub_i, lss_i, leq_i, gtr_i, geq_i, eql_i, neq_i, min_i, max_i, conv_i, len_sl, len_nil, not_b, cells_agg, new_s, fld_p, nil_p, guard_skip, Bool.false_and]
  | true =>
    simp only [bnd, guard_tt, guard_ff, guard_tf, guard_ft, pick_t, pick_f, if_t, if_f, add_i, sub_i, lss_i, leq_i, gtr_i, geq_i, eql_i, neq_i, min_i, max_i, conv_i, len_sl, len_nil, not_b, cells_agg, new_s, fld_p, nil_p, Nat.zero_add, L.l5, Bool.true_and]
    cases z.seq == 0 with
    | false => simp only [bnd, guard_tt, guard_ff, guard_tf, guard_ft, pick_t, pick_f, if_t, if_f, add_i, sub_i, lss_i, leq_i, gtr_i, geq_i, eql_i, neq_i, min_i, max_i, conv_i, len_sl, len_nil, not_b, cells_agg, new_s, fld_p, nil_p, guard_skip, Bool.false_and]
    | true =>
      simp only [bnd, guard_tt, guard_ff, guard_tf, guard_ft, pick_t, pick_f, if_t, if_f, add_i, sub_i, lss_i, leq_i, gtr_i, geq_i, eql_i, neq_i, min_i, max_i, conv_i, len_sl, len_nil, not_b, cells_agg, new_s, fld_p, nil_p, Nat.zero_add, L.l6, Bool.true_and]
      cases z.at_ == 0 with
      | false => simp only [bnd, guard_tt, guard_ff, guard_tf, guard_ft, pick_t, pick_f, if_t, if_f, add_i, sub_i, lss_i, leq_i, gtr_i, geq_i, eql_i, neq_i, min_i, max_i, conv_i, len_sl, len_nil, not_b, cells_agg, new_s, fld_p, nil_p, guard_skip, Bool.false_and]
      | true =>
        simp only [bnd, guard_tt, guard_ff, guard_tf, guard_ft, pick_t, pick_f, if_t, if_f, add_i, sub_i, lss_i, leq_i, gtr_i, geq_i, eql_i, neq_i, min_i, max_i, conv_i, len_sl, len_nil, not_b, cells_agg, new_s, fld_p, nil_p, Nat.zero_add, L.l7, Bool.true_and]
        cases z.of_ == 0 with
        | false => simp only [bnd, guard_tt, guard_ff, guard_tf, guard_ft, pick_t, pick_f, if_t, if_f, add_i, sub_i, lss_i, leq_i, gtr_i, geq_i, eql_i, neq_i, min_i, max_i, conv_i, len_sl, len_nil, not_b, cells_agg, new_s, fld_p, nil_p, guard_skip, Bool.false_and]
        | true =>
          simp only [bnd, guard_tt, guard_ff, guard_tf, guard_ft, pick_t, pick_f, if_t, if_f, add_i, sub_i, lss_i, leq_i, gtr_i, geq_i, eql_i, neq_i, min_i, max_i, conv_i, len_sl, len_nil, not_b, cells_agg, new_s, fld_p, nil_p, Nat.zero_add, L.l8, Bool.true_and]
          cases z.size == 0 with
          | false => simp only [bnd, guard_tt, guard_ff, guard_tf, guard_ft, pick_t, pick_f, if_t, if_f, add_i, sub_i, lss_i, leq_i, gtr_i, geq_i, eql_i, neq_i, min_i, max_i, conv_i, len_sl, len_nil, not_b, cells_agg, new_s, fld_p, nil_p, guard_skip, Bool.false_and]
          | true =>
            simp only [bnd, guard_tt, guard_ff, guard_tf, guard_ft, pick_t, pick_f, if_t, if_f, add_i, sub_i, lss_i, leq_i, gtr_i, geq_i, eql_i, neq_i, min_i, max_i, conv_i, len_sl, len_nil, not_b, cells_agg, new_s, fld_p, nil_p, Nat.zero_add, L.l9, Bool.true_and]
            cases z.inst == 0 with
            | false => simp only [bnd, guard_tt, guard_ff, guard_tf, guard_ft, pick_t, pick_f, if_t, if_f, add_i, sub_i, lss_i, leq_i, gtr_i, geq_i, eql_i, neq_i, min_i, max_i, conv_i, len_sl, len_nil, not_b, cells_agg, new_s, fld_p, nil_p, guard_skip, Bool.false_and]
            | true =>
              simp only [bnd, guard_tt, guard_ff, guard_tf, guard_ft, pick_t, pick_f, if_t, if_f, add_i, sub_i, lss_i, leq_i, gtr_i, geq_i, eql_i, neq_i, min_i, max_i, conv_i, len_sl, len_nil, not_b, cells_agg, new_s, fld_p, nil_p, Nat.zero_add, L.l10, Bool.true_and]
              cases z.round == 0 with
              | false => simp only [bnd, guard_tt, guard_ff, guard_tf, guard_ft, pick_t, pick_f, if_t, if_f, add_i, sub_i, lss_i, leq_i, gtr_i, geq_i, eql_i, neq_i, min_i, max_i, conv_i, len_sl, len_nil, not_b, cells_agg, new_s, fld_p, nil_p, guard_skip, Bool.false_and]
              | true => simp only [bnd, guard_tt, guard_ff, guard_tf, guard_ft, pick_t, pick_f, if_t, if_f, add_i, sub_i, lss_i, leq_i, gtr_i, geq_i, eql_i, neq_i, min_i, max_i, conv_i, len_sl, len_nil, not_b, cells_agg, new_s, fld_p, nil_p, Nat.zero_add, L.l11, L.l12, L.l13, L.l14, L.l15, len_runs hc.est, len_runs hc.aux, lenV hc.done, lenV hc.held, lenV hc.data, w1, w2, w3, w4, Bool.true_and]
end
end Go.Proofs.Ytkfdgegmahbkiaa.Sim
namespace Go.Proofs.Ytkfdgegmahbkiaa.Sim
set_option linter.unusedSimpArgs false
set_option linter.unusedVariables false

def idOk (a b : Int) : Bool := decide (a < 64) && decide (1 ≤ b) && decide (b ≤ 4611686018427387904)
theorem ident_may {s : Store} {a b : Int} (ha : 0 ≤ a ∧ a < 256) (k : Nat) : rn (k + 1) 56 [.agg [.int .u8 a, .int .u64 b], .int .i64 64] s = some (.bool (idOk a b), s.push (.cells [.int .u8 a, .int .u64 b] false)) := by
  rw [F56.eq]
  unfold F56.f F56.p0 idOk
  have hg : (s.push (.cells [.int .u8 a, .int .u64 b] false)).get s.next = .cells [.int .u8 a, .int .u64 b] false := by rw [get_push, if_pos rfl]
  have l0 : ∀ {α : Type} (f : AV → Option α), aLoad1 (.ptr s.next 0 2) (s.push (.cells [.int .u8 a, .int .u64 b] false)) f = f (.int .u8 a) := fun f => load_1 hg rfl rfl
  have l1 : ∀ {α : Type} (f : AV → Option α), aLoad1 (.ptr s.next 1 2) (s.push (.cells [.int .u8 a, .int .u64 b] false)) f = f (.int .u64 b) := fun f => load_1 hg rfl rfl
  have hm : min (64 : Int) 64 = 64 := by omega
  rw [cells_agg, new_s]
  simp only [List.length_cons, List.length_nil, Nat.zero_add, Nat.reduceAdd, fld_p, l0, conv_i, w_i64 (show -9223372036854775808 ≤ a by omega) (show a < 9223372036854775808 by omega), min_i, hm, lss_i]
  cases decide (a < 64) with
  | false => simp only [bnd, guard_tt, guard_ff, guard_tf, guard_ft, pick_t, pick_f, if_t, if_f, add_i, sub_i, lss_i, leq_i, gtr_i, geq_i, eql_i, neq_i, min_i, max_i, conv_i, len_sl, len_nil, not_b, cells_agg, new_s, fld_p, nil_p, guard_skip, Bool.false_and]
  | true =>
    simp only [bnd, guard_tt, guard_ff, guard_tf, guard_ft, pick_t, pick_f, if_t, if_f, add_i, sub_i, lss_i, leq_i, gtr_i, geq_i, eql_i, neq_i, min_i, max_i, conv_i, len_sl, len_nil, not_b, cells_agg, new_s, fld_p, nil_p, Nat.zero_add, l1, Bool.true_and, ge_iff_le]
    cases decide (1 ≤ b) with
    | false => simp only [bnd, guard_tt, guard_ff, guard_tf, guard_ft, pick_t, pick_f, if_t, if_f, add_i, sub_i, lss_i, leq_i, gtr_i, geq_i, eql_i, neq_i, min_i, max_i, conv_i, len_sl, len_nil, not_b, cells_agg, new_s, fld_p, nil_p, guard_skip, Bool.false_and]
    | true => simp only [bnd, guard_tt, guard_ff, guard_tf, guard_ft, pick_t, pick_f, if_t, if_f, add_i, sub_i, lss_i, leq_i, gtr_i, geq_i, eql_i, neq_i, min_i, max_i, conv_i, len_sl, len_nil, not_b, cells_agg, new_s, fld_p, nil_p, Nat.zero_add, l1, Bool.true_and]
theorem ref_id_may {s : Store} {a b : Int} (ha : 0 ≤ a ∧ a < 256) (k : Nat) : rn (k + 1) 38 [.agg [.int .u8 a, .int .u64 b], .int .i64 64] s = some (.bool (idOk a b), s.push (.cells [.int .u8 a, .int .u64 b] false)) := by
  rw [F38.eq]
  unfold F38.f F38.p0 idOk
  have hg : (s.push (.cells [.int .u8 a, .int .u64 b] false)).get s.next = .cells [.int .u8 a, .int .u64 b] false := by rw [get_push, if_pos rfl]
  have l0 : ∀ {α : Type} (f : AV → Option α), aLoad1 (.ptr s.next 0 2) (s.push (.cells [.int .u8 a, .int .u64 b] false)) f = f (.int .u8 a) := fun f => load_1 hg rfl rfl
  have l1 : ∀ {α : Type} (f : AV → Option α), aLoad1 (.ptr s.next 1 2) (s.push (.cells [.int .u8 a, .int .u64 b] false)) f = f (.int .u64 b) := fun f => load_1 hg rfl rfl
  have hb : decide (1 ≤ b) = decide (b > 0) := by
    by_cases h : b > 0
    · rw [decide_eq_true h, decide_eq_true (by omega)]
    · rw [decide_eq_false h, decide_eq_false (by omega)]
  rw [cells_agg, new_s, hb]
  simp only [List.length_cons, List.length_nil, Nat.zero_add, Nat.reduceAdd, fld_p, l0, conv_i, w_i64 (show -9223372036854775808 ≤ a by omega) (show a < 9223372036854775808 by omega), lss_i]
  cases hd : decide (a < 64) with
  | false => simp only [bnd, guard_tt, guard_ff, guard_tf, guard_ft, pick_t, pick_f, if_t, if_f, add_i, sub_i, lss_i, leq_i, gtr_i, geq_i, eql_i, neq_i, min_i, max_i, conv_i, len_sl, len_nil, not_b, cells_agg, new_s, fld_p, nil_p, guard_skip, Bool.false_and]
  | true =>
    simp only [bnd, guard_tt, guard_ff, guard_tf, guard_ft, pick_t, pick_f, if_t, if_f, add_i, sub_i, lss_i, leq_i, gtr_i, geq_i, eql_i, neq_i, min_i, max_i, conv_i, len_sl, len_nil, not_b, cells_agg, new_s, fld_p, nil_p, Nat.zero_add, l0, l1, Bool.true_and, hd]
    cases decide (b > 0) with
    | false => simp only [bnd, guard_tt, guard_ff, guard_tf, guard_ft, pick_t, pick_f, if_t, if_f, add_i, sub_i, lss_i, leq_i, gtr_i, geq_i, eql_i, neq_i, min_i, max_i, conv_i, len_sl, len_nil, not_b, cells_agg, new_s, fld_p, nil_p, guard_skip, Bool.false_and]
    | true => simp only [bnd, guard_tt, guard_ff, guard_tf, guard_ft, pick_t, pick_f, if_t, if_f, add_i, sub_i, lss_i, leq_i, gtr_i, geq_i, eql_i, neq_i, min_i, max_i, conv_i, len_sl, len_nil, not_b, cells_agg, new_s, fld_p, nil_p, Nat.zero_add, l1, Bool.true_and]

def cmpI (a b : Int) : Int := if a < b then -1 else if a > b then 1 else 0
theorem cmp_u8 (a b : Int) (s : Store) (k : Nat) : rn (k + 2) 73 [.int .u8 a, .int .u8 b] s = some (.int .i64 (cmpI a b), s) := by
  have h : ∀ (c : Int) (s : Store), rn (k + 1) 75 [.int .u8 c] s = some (.bool false, s) := fun c s => by
    rw [F75.eq]
    unfold F75.f F75.p0
    rw [neq_i]; simp
  rw [F73.eq]
  unfold F73.f F73.p0 cmpI
  simp only [h, bnd, if_f, lss_i, gtr_i]
  by_cases h1 : a < b
  · simp only [h1, decide_true, if_t, if_true]
  · by_cases h2 : a > b
    · simp only [h1, h2, decide_true, decide_false, if_t, if_f, if_true, if_false]
    · simp only [h1, h2, decide_false, if_f, if_false]
theorem cmp_u64 (a b : Int) (s : Store) (k : Nat) : rn (k + 2) 74 [.int .u64 a, .int .u64 b] s = some (.int .i64 (cmpI a b), s) := by
  have h : ∀ (c : Int) (s : Store), rn (k + 1) 76 [.int .u64 c] s = some (.bool false, s) := fun c s => by
    rw [F76.eq]
    unfold F76.f F76.p0
    rw [neq_i]; simp
  rw [F74.eq]
  unfold F74.f F74.p0 cmpI
  simp only [h, bnd, if_f, lss_i, gtr_i]
  by_cases h1 : a < b
  · simp only [h1, decide_true, if_t, if_true]
  · by_cases h2 : a > b
    · simp only [h1, h2, decide_true, decide_false, if_t, if_f, if_true, if_false]
    · simp only [h1, h2, decide_false, if_f, if_false]
theorem or_loop (k : Nat) {s : Store} {v : AV} {xs : List Int} (hv : IsV s v .i64 xs) (hb : xs.length ≤ 1000) : ∀ (n i : Nat), i ≤ xs.length → xs.length - i < n → F72.l0 k n (.int .i64 0) v (.int .i64 xs.length) (.int .i64 (i : Int)) s = some (.int .i64 (((xs.drop i).find? (fun x => x != 0)).getD 0), s)
  | 0, i, _, hn => by omega
  | n + 1, i, hi, hn => by
    have hs : F72.l0 k (n + 1) = fun x3 x6 x7 x8 s => F72.p4 k (F72.l0 k n) x3 x6 x7 x8 s := rfl
    rw [hs]
    clear hs
    simp only
    unfold F72.p4 F72.p3
    rw [lss_i]
    by_cases h : i < xs.length
    · rw [decide_eq_true (show (i : Int) < (xs.length : Int) by omega), if_t]
      unfold F72.p2 F72.p1
      obtain ⟨p, p1, p2⟩ := atV hv (i := (i : Int)) (by omega) (by omega)
      have hd : xs.getD ((i : Int)).toNat 0 = xs[i] := by simp [h]
      rw [p1, p2, hd, neq_i, List.drop_eq_getElem_cons h, List.find?_cons]
      by_cases hz : xs[i] = 0
      · rw [show (xs[i] != 0) = false from by simp [hz], if_f, add_i, w_i64 (by omega) (by omega), show (i : Int) + 1 = ((i + 1 : Nat) : Int) by omega, or_loop k hv hb n (i + 1) (by omega) (by omega)]
      · rw [show (xs[i] != 0) = true from by simpa using hz, if_t]
        rfl
    · rw [decide_eq_false (show ¬ (i : Int) < (xs.length : Int) by omega), if_f, List.drop_eq_nil_of_le (by omega)]
      rfl
theorem less_run {s : Store} (a1 a2 b1 b2 : Int) (k : Nat) (hk : 10 ≤ k) : ∃ s', rn (k + 4) 66 [.agg [.int .u8 a1, .int .u64 a2], .agg [.int .u8 b1, .int .u64 b2]] s = some (.bool (decide (a1 < b1 ∨ a1 = b1 ∧ a2 < b2)), s') ∧ Ext s s' := by
  have hord : ∀ s : Store, ∃ s', rn (k + 3) 71 [.agg [.int .u8 a1, .int .u64 a2], .agg [.int .u8 b1, .int .u64 b2]] s = some (.int .i64 (if cmpI a1 b1 ≠ 0 then cmpI a1 b1 else cmpI a2 b2), s') ∧ Ext s s' := fun s => by
    rw [F71.eq]
    unfold F71.f F71.p2
    rw [cells_agg, new_s, cells_agg, new_s]
    simp only [List.length_cons, List.length_nil, Nat.zero_add, Nat.reduceAdd, next_push]
    have e1 := Ext.push s (.cells [.int .u8 a1, .int .u64 a2] false)
    have e2 := Ext.push (s.push (.cells [.int .u8 a1, .int .u64 a2] false)) (.cells [.int .u8 b1, .int .u64 b2] false)
    have ga : ((s.push (.cells [.int .u8 a1, .int .u64 a2] false)).push (.cells [.int .u8 b1, .int .u64 b2] false)).get s.next = .cells [.int .u8 a1, .int .u64 a2] false := by
      rw [e2.get s.next (Nat.lt_succ_self _), get_push, if_pos rfl]
    have gb : ((s.push (.cells [.int .u8 a1, .int .u64 a2] false)).push (.cells [.int .u8 b1, .int .u64 b2] false)).get (s.next + 1) = .cells [.int .u8 b1, .int .u64 b2] false := by
      simp only [get_push, next_push, if_true]
    generalize (s.push (.cells [.int .u8 a1, .int .u64 a2] false)).push (.cells [.int .u8 b1, .int .u64 b2] false) = t at *
    have l0 : ∀ {α : Type} (f : AV → Option α), aLoad1 (.ptr s.next 0 2) t f = f (.int .u8 a1) := fun f => load_1 ga rfl rfl
    have l1 : ∀ {α : Type} (f : AV → Option α), aLoad1 (.ptr s.next 1 2) t f = f (.int .u64 a2) := fun f => load_1 ga rfl rfl
    have m0 : ∀ {α : Type} (f : AV → Option α), aLoad1 (.ptr (s.next + 1) 0 2) t f = f (.int .u8 b1) := fun f => load_1 gb rfl rfl
    have m1 : ∀ {α : Type} (f : AV → Option α), aLoad1 (.ptr (s.next + 1) 1 2) t f = f (.int .u64 b2) := fun f => load_1 gb rfl rfl
    have hb2 : ∀ {α : Type} (x y : Int) (f : List AV → Option α), aBuild [(0, 1, .int .i64 x), (1, 1, .int .i64 y)] [AV.int .i64 0, AV.int .i64 0] f = f [.int .i64 x, .int .i64 y] := fun x y f => rfl
    have hor : ∀ x y : Int, rn (k + 2) 72 [.sl t.next 0 2 1 2] (t.push (.cells [.int .i64 x, .int .i64 y] false)) = some (.int .i64 (if x ≠ 0 then x else y), t.push (.cells [.int .i64 x, .int .i64 y] false)) := fun x y => by
      rw [F72.eq]
      unfold F72.f F72.p7 F72.p6 F72.p5
      rw [len_sl]
      have hv : IsV (t.push (.cells [.int .i64 x, .int .i64 y] false)) (.sl t.next 0 2 1 2) .i64 [x, y] := .inr ⟨t.next, 0, [x, y], false, rfl, Nat.lt_succ_self _, by rw [get_push, if_pos rfl]; rfl, by simp, rfl⟩
      have := or_loop (k + 1) hv (by simp) (k + 1) 0 (by omega) (by simp; omega)
      rw [Int.natCast_zero] at this
      refine this.trans ?_
      by_cases hx : x = 0
      · by_cases hy : y = 0
        · simp [hx, hy]
        · simp [hx, hy]
      · simp [hx]
    unfold F71.p1 F71.p0
    simp only [bnd, guard_tt, guard_ff, guard_tf, guard_ft, pick_t, pick_f, if_t, if_f, add_i, sub_i, lss_i, leq_i, gtr_i, geq_i, eql_i, neq_i, min_i, max_i, conv_i, len_sl, len_nil, not_b, cells_agg, new_s, fld_p, nil_p, Nat.zero_add, Nat.add_zero, l0, l1, m0, m1, cmp_u8, cmp_u64, aSame_self, hb2, hor]
    exact ⟨_, rfl, (e1.trans e2).trans (Ext.push _ _)⟩
  rw [F66.eq]
  unfold F66.f F66.p0
  rw [cells_agg, new_s, cells_agg, new_s]
  simp only [List.length_cons, List.length_nil, Nat.zero_add, Nat.reduceAdd, next_push]
  have e1 := Ext.push s (.cells [.int .u8 a1, .int .u64 a2] false)
  have e2 := Ext.push (s.push (.cells [.int .u8 a1, .int .u64 a2] false)) (.cells [.int .u8 b1, .int .u64 b2] false)
  have ga : ((s.push (.cells [.int .u8 a1, .int .u64 a2] false)).push (.cells [.int .u8 b1, .int .u64 b2] false)).get s.next = .cells [.int .u8 a1, .int .u64 a2] false := by
    rw [e2.get s.next (Nat.lt_succ_self _), get_push, if_pos rfl]
  have gb : ((s.push (.cells [.int .u8 a1, .int .u64 a2] false)).push (.cells [.int .u8 b1, .int .u64 b2] false)).get (s.next + 1) = .cells [.int .u8 b1, .int .u64 b2] false := by
    simp only [get_push, next_push, if_true]
  generalize (s.push (.cells [.int .u8 a1, .int .u64 a2] false)).push (.cells [.int .u8 b1, .int .u64 b2] false) = t at *
  rw [rld_all (n := 2) ga rfl, rld_all (n := 2) gb rfl]
  obtain ⟨s', k1, e3⟩ := hord t
  rw [k1, bnd, lss_i]
  suffices hq : decide ((if cmpI a1 b1 ≠ 0 then cmpI a1 b1 else cmpI a2 b2) < 0) = decide (a1 < b1 ∨ a1 = b1 ∧ a2 < b2) by
    rw [hq]
    exact ⟨s', rfl, (e1.trans e2).trans e3⟩
  unfold cmpI
  apply decide_eq_decide.2
  by_cases q1 : a1 < b1
  · simp only [q1, if_true]; constructor <;> intro _ <;> first | exact .inl trivial | omega | simp
  · by_cases q2 : a1 > b1
    · simp only [q1, q2, if_true, if_false]; constructor <;> intro q <;> simp at q ⊢ <;> omega
    · have q3 : a1 = b1 := by omega
      subst q3
      by_cases q4 : a2 < b2
      · simp [q4]
      · by_cases q5 : a2 > b2
        · simp [q4, q5]
        · simp [q4, q5]
theorem behind_run {s : Store} {r : Rn} (hw : WfR r) (h : runOk r = true) (k : Nat) : ∃ s', rn (k + 1) 67 [.agg (rcells r)] s = some (.agg [.int .u8 r.1, .int .u64 (r.2.1 + r.2.2)], s') ∧ Ext s s' := by
  rw [F67.eq]
  unfold F67.f F67.p0
  rw [cells_agg, new_s, new_s]
  simp only [List.length_cons, List.length_nil, Nat.zero_add, Nat.reduceAdd, next_push, show (rcells r).length = 3 from rfl]
  have e1 := Ext.push s (.cells (rcells r) false)
  have e2 := Ext.push (s.push (.cells (rcells r) false)) (.cells [AV.int .u8 0, AV.int .u64 0] false)
  have ga : ((s.push (.cells (rcells r) false)).push (.cells [AV.int .u8 0, AV.int .u64 0] false)).get s.next = .cells (rcells r) false := by
    rw [e2.get s.next (Nat.lt_succ_self _), get_push, if_pos rfl]
  have gb : ((s.push (.cells (rcells r) false)).push (.cells [AV.int .u8 0, AV.int .u64 0] false)).get (s.next + 1) = .cells [AV.int .u8 0, AV.int .u64 0] false := by
    simp only [get_push, next_push, if_true]
  have hn : s.next + 1 < ((s.push (.cells (rcells r) false)).push (.cells [AV.int .u8 0, AV.int .u64 0] false)).next := Nat.lt_succ_self _
  generalize (s.push (.cells (rcells r) false)).push (.cells [AV.int .u8 0, AV.int .u64 0] false) = t at *
  have l0 : ∀ {α : Type} (f : AV → Option α), aLoad1 (.ptr s.next 0 3) t f = f (.int .u8 r.1) := fun f => load_1 ga rfl rfl
  have l1 : ∀ {α : Type} (f : AV → Option α), aLoad1 (.ptr s.next 1 3) t f = f (.int .u64 r.2.1) := fun f => load_1 ga rfl rfl
  have l2 : ∀ {α : Type} (f : AV → Option α), aLoad1 (.ptr s.next 2 3) t f = f (.int .u64 r.2.2) := fun f => load_1 ga rfl rfl
  have hb : ∀ {α : Type} (x y : Int) (f : List AV → Option α), aBuild [(0, 1, .int .u8 x), (1, 1, .int .u64 y)] [AV.int .u8 0, AV.int .u64 0] f = f [.int .u8 x, .int .u64 y] := fun x y f => rfl
  have hr := of_decide_eq_true h
  simp only [fld_p, Nat.zero_add, l0, l1, l2, add_i, w_u64 (show 0 ≤ r.2.1 + r.2.2 by omega) (show r.2.1 + r.2.2 < 18446744073709551616 by omega), hb]
  rw [rst_all (n := 2) gb rfl rfl, rld_all (n := 2) (s := t.set (s.next + 1) _) (cs := [.int .u8 r.1, .int .u64 (r.2.1 + r.2.2)]) (ro := false) (by rw [get_set, if_pos rfl]) rfl]
  refine ⟨_, rfl, ⟨Nat.le_trans (e1.trans e2).next (Nat.le_refl _), fun l hl => ?_⟩⟩
  rw [get_set, if_neg (by omega)]
  exact (e1.trans e2).get l hl

/-- Rows. -/
def stepOk (p r : Rn) : Bool := decide (p.1 < r.1 ∨ p.1 = r.1 ∧ p.2.1 + p.2.2 < r.2.1)
def rowsG : Option Rn → List Rn → Bool
  | _, [] => true
  | none, r :: t => runOk r && rowsG (some r) t
  | some p, r :: t => runOk r && (stepOk p r && rowsG (some r) t)
def prevAt (l : List Rn) (i : Nat) : Option Rn := if i = 0 then none else l[i - 1]?
theorem prev_ok {l : List Rn} {i : Nat} (h : i < l.length) : prevAt l (i + 1) = some l[i] := by
  unfold prevAt
  rw [if_neg (by omega), Nat.add_sub_cancel]
  exact List.getElem?_eq_getElem h
theorem rows_loop3 (k : Nat) (hk : 10 ≤ k) {s0 : Store} {v : AV} {l : List Rn} (hl : IsRuns s0 v l) (hw : ∀ r ∈ l, WfR r) (hb : l.length ≤ 1000000) : ∀ (n i : Nat) (s : Store), Ext s0 s → i ≤ l.length → l.length - i < n → (i = 0 ∨ ∃ h : i - 1 < l.length, runOk l[i - 1] = true) →
    ∃ s', F57.l0 (k + 4) n v v (.int .i64 l.length) (.int .i64 (i : Int)) s = some (.bool (rowsG (prevAt l i) (l.drop i)), s') ∧ Ext s0 s'
  | 0, i, _, _, _, hn, _ => by omega
  | n + 1, i, s, e, hi, hn, hp => by
    have hs : F57.l0 (k + 4) (n + 1) = fun x0 x5 x6 x7 s => F57.p7 (k + 4) (F57.l0 (k + 4) n) x0 x5 x6 x7 s := rfl
    rw [hs]
    clear hs
    simp only
    unfold F57.p7 F57.p6
    rw [lss_i]
    by_cases h : i < l.length
    · rw [decide_eq_true (show (i : Int) < (l.length : Int) by omega), if_t]
      unfold F57.p5
      obtain ⟨p, p1, p2⟩ := elem_run (hl.ext e) h
      rw [p1, p2, new_all (n := 3) (s := s) rfl rfl]
      unfold F57.p4
      have e1 := Ext.push s (.cells (rcells l[i]) false)
      have hg : (s.push (.cells (rcells l[i]) false)).get s.next = .cells (rcells l[i]) false := by rw [get_push, if_pos rfl]
      have hwi := hw _ (List.getElem_mem h)
      rw [rld_all (n := 3) hg rfl, ident_run hwi, bnd, not_b]
      have e2 := Ext.push (s.push (.cells (rcells l[i]) false)) (.cells (rcells l[i]) false)
      have hg2 := (e2.get s.next (Nat.lt_succ_self _)).trans hg
      have ee := (e.trans e1).trans e2
      simp only
      rw [List.drop_eq_getElem_cons h]
      have hw1 : IntKind.i64.wrap ((i : Int) + 1) = ((i + 1 : Nat) : Int) := by rw [w_i64 (by omega) (by omega)]; omega
      cases hok : runOk l[i] with
      | false =>
        rw [Bool.not_false, if_t]
        refine ⟨_, ?_, ee⟩
        cases prevAt l i <;> simp only [rowsG, hok, Bool.false_and]
      | true =>
        rw [Bool.not_true, if_f]
        unfold F57.p3
        generalize hte : (s.push (.cells (rcells l[i]) false)).push (.cells (rcells l[i]) false) = t at *
        by_cases h0 : i = 0
        · subst h0
          have hz : decide (((0 : Nat) : Int) > 0) = false := by decide
          simp only [bnd, guard_tt, guard_ff, guard_tf, guard_ft, pick_t, pick_f, if_t, if_f, add_i, sub_i, lss_i, leq_i, gtr_i, geq_i, eql_i, neq_i, min_i, max_i, conv_i, len_sl, len_nil, not_b, cells_agg, new_s, fld_p, nil_p, hz, guard_skip, aSame_self]
          unfold F57.p2
          rw [if_f]
          unfold F57.p1
          rw [add_i, hw1]
          obtain ⟨s', g1, g2⟩ := rows_loop3 k hk hl hw hb n 1 t ee (by omega) (by omega) (.inr ⟨h, hok⟩)
          refine ⟨s', ?_, g2⟩
          rw [g1, prev_ok h]
          simp only [prevAt, if_true, rowsG, hok, Bool.true_and]
        · have hz : decide ((i : Int) > 0) = true := decide_eq_true (by omega)
          have hm1 : IntKind.i64.wrap ((i : Int) - 1) = ((i - 1 : Nat) : Int) := by rw [w_i64 (by omega) (by omega)]; omega
          have h1 : i - 1 < l.length := by omega
          obtain ⟨q, q1, q2⟩ := elem_run (hl.ext ee) h1
          have hok1 : runOk l[i - 1] = true := by
            rcases hp with z | ⟨_, z⟩
            · exact absurd z h0
            · exact z
          obtain ⟨s3, k3, e3⟩ := behind_run (s := t) (hw _ (List.getElem_mem h1)) hok1 (k + 3)
          have hg3 := (e3.get s.next (by rw [← hte]; exact Nat.lt_of_lt_of_le (Nat.lt_succ_self _) (Nat.le_succ _))).trans hg2
          have m0 : ∀ f : AV → Rz, aLoad1 (.ptr s.next 0 3) t f = f (.int .u8 l[i].1) := fun f => load_1 hg2 rfl rfl
          have m1 : ∀ f : AV → Rz, aLoad1 (.ptr s.next 1 3) t f = f (.int .u64 l[i].2.1) := fun f => load_1 hg2 rfl rfl
          have n0 : ∀ f : AV → Rz, aLoad1 (.ptr s.next 0 3) s3 f = f (.int .u8 l[i].1) := fun f => load_1 hg3 rfl rfl
          have n1 : ∀ f : AV → Rz, aLoad1 (.ptr s.next 1 3) s3 f = f (.int .u64 l[i].2.1) := fun f => load_1 hg3 rfl rfl
          have mm0 : ∀ f : AV → Option (AV × Store), aLoad1 (.ptr s.next 0 3) t f = f (.int .u8 l[i].1) := m0
          have hbd : ∀ {α : Type} (x y : Int) (f : List AV → Option α), aBuild [(0, 1, .int .u8 x), (1, 1, .int .u64 y)] [AV.int .u8 0, AV.int .u64 0] f = f [.int .u8 x, .int .u64 y] := fun x y f => rfl
          obtain ⟨s4, k4, e4⟩ := less_run (s := s3) l[i - 1].1 (l[i - 1].2.1 + l[i - 1].2.2) l[i].1 l[i].2.1 k hk
          simp only [bnd, guard_tt, guard_ff, guard_tf, guard_ft, pick_t, pick_f, if_t, if_f, add_i, sub_i, lss_i, leq_i, gtr_i, geq_i, eql_i, neq_i, min_i, max_i, conv_i, len_sl, len_nil, not_b, cells_agg, new_s, fld_p, nil_p, hz, hm1, q1, q2, k3, Nat.zero_add, m0, m1, n0, n1, aSame_self, hbd, k4]
          unfold F57.p2
          have hpv : prevAt l i = some l[i - 1] := by
            unfold prevAt
            rw [if_neg h0]
            exact List.getElem?_eq_getElem h1
          rw [hpv]
          cases hd : decide (l[i - 1].1 < l[i].1 ∨ l[i - 1].1 = l[i].1 ∧ l[i - 1].2.1 + l[i - 1].2.2 < l[i].2.1) with
          | false =>
            rw [Bool.not_false, if_t]
            exact ⟨_, by simp only [rowsG, stepOk, hd, hok, Bool.false_and, Bool.and_false], (ee.trans e3).trans e4⟩
          | true =>
            rw [Bool.not_true, if_f]
            unfold F57.p1
            rw [add_i, hw1]
            obtain ⟨s', g1, g2⟩ := rows_loop3 k hk hl hw hb n (i + 1) s4 ((ee.trans e3).trans e4) (by omega) (by omega) (.inr ⟨h, hok⟩)
            refine ⟨s', ?_, g2⟩
            rw [g1, prev_ok h]
            simp only [rowsG, stepOk, hd, hok, Bool.true_and]
    · rw [decide_eq_false (show ¬ (i : Int) < (l.length : Int) by omega), if_f, List.drop_eq_nil_of_le (by omega)]
      refine ⟨s, ?_, e⟩
      cases prevAt l i <;> rfl
theorem ident_rows {s : Store} {v : AV} {l : List Rn} (hl : IsRuns s v l) (hw : ∀ r ∈ l, WfR r) (k : Nat) (hk : 10 ≤ k) (hb : l.length < k) (hk2 : k ≤ 1000000) : ∃ s', rn (k + 5) 57 [v] s = some (.bool (rowsG none l), s') ∧ Ext s s' := by
  rw [F57.eq]
  unfold F57.f F57.p9 F57.p8
  rw [len_runs hl]
  obtain ⟨s', g1, g2⟩ := rows_loop3 k hk hl hw (by omega) (k + 4) 0 s (Ext.refl s) (by omega) (by omega) (.inl rfl)
  rw [Int.natCast_zero] at g1
  exact ⟨s', g1, g2⟩
theorem ref_rows_loop (k : Nat) (hk : 10 ≤ k) {s0 : Store} {v : AV} {l : List Rn} (hl : IsRuns s0 v l) (hw : ∀ r ∈ l, WfR r) (hb : l.length ≤ 1000000) : ∀ (n i : Nat) (s : Store), Ext s0 s → i ≤ l.length → l.length - i < n → (i = 0 ∨ ∃ h : i - 1 < l.length, runOk l[i - 1] = true) →
    ∃ s', F59.l0 (k + 4) n v (.int .i64 l.length) (.int .i64 (i : Int)) s = some (.bool (rowsG (prevAt l i) (l.drop i)), s') ∧ Ext s0 s'
  | 0, i, _, _, _, hn, _ => by omega
  | n + 1, i, s, e, hi, hn, hp => by
    have hs : F59.l0 (k + 4) (n + 1) = fun x0 x5 x6 s => F59.p7 (k + 4) (F59.l0 (k + 4) n) x0 x5 x6 s := rfl
    rw [hs]
    clear hs
    simp only
    unfold F59.p7 F59.p6
    rw [lss_i]
    by_cases h : i < l.length
    · rw [decide_eq_true (show (i : Int) < (l.length : Int) by omega), if_t]
      unfold F59.p5 F59.p4
      obtain ⟨p, p1, p2⟩ := elem_run (hl.ext e) h
      have hwi := hw _ (List.getElem_mem h)
      rw [p1, p2, ref_run hwi, bnd, not_b]
      have e2 := Ext.push s (.cells (rcells l[i]) false)
      have ee := e.trans e2
      simp only
      rw [List.drop_eq_getElem_cons h]
      have hw1 : IntKind.i64.wrap ((i : Int) + 1) = ((i + 1 : Nat) : Int) := by rw [w_i64 (by omega) (by omega)]; omega
      cases hok : runOk l[i] with
      | false =>
        rw [Bool.not_false, if_t]
        refine ⟨_, ?_, ee⟩
        cases prevAt l i <;> simp only [rowsG, hok, Bool.false_and]
      | true =>
        rw [Bool.not_true, if_f]
        unfold F59.p3
        generalize s.push (.cells (rcells l[i]) false) = t at *
        by_cases h0 : i = 0
        · subst h0
          have hz : decide (((0 : Nat) : Int) > 0) = false := by decide
          simp only [bnd, guard_tt, guard_ff, guard_tf, guard_ft, pick_t, pick_f, if_t, if_f, add_i, sub_i, lss_i, leq_i, gtr_i, geq_i, eql_i, neq_i, min_i, max_i, conv_i, len_sl, len_nil, not_b, cells_agg, new_s, fld_p, nil_p, hz, guard_skip, aSame_self]
          unfold F59.p2
          rw [if_f]
          unfold F59.p1
          rw [add_i, hw1]
          obtain ⟨s', g1, g2⟩ := ref_rows_loop k hk hl hw hb n 1 t ee (by omega) (by omega) (.inr ⟨h, hok⟩)
          refine ⟨s', ?_, g2⟩
          rw [g1, prev_ok h]
          simp only [prevAt, if_true, rowsG, hok, Bool.true_and]
        · have hz : decide ((i : Int) > 0) = true := decide_eq_true (by omega)
          have hm1 : IntKind.i64.wrap ((i : Int) - 1) = ((i - 1 : Nat) : Int) := by rw [w_i64 (by omega) (by omega)]; omega
          have h1 : i - 1 < l.length := by omega
          have hok1 : runOk l[i - 1] = true := by
            rcases hp with z | ⟨_, z⟩
            · exact absurd z h0
            · exact z
          have hw1' := hw _ (List.getElem_mem h1)
          have hr1 := of_decide_eq_true hok1
          rcases (hl.ext ee) with ⟨_, z⟩ | ⟨id, ro, rfl, hid, hr⟩
          · rw [z] at h; simp at h
          have hl3 : ∀ x : Rn, (rcells x).length = 3 := fun x => rfl
          have ix : ∀ (j : Nat), j < l.length → ∀ {α : Type} (f : AV → Option α), aIndexSl 3 (.sl id 0 l.length 3 (l.length * 3)) (.int .i64 (j : Int)) f = f (.ptr id (0 + j * 3) (l.length * 3)) := fun j hj => fun f => idxL hj f
          have a0 : ∀ {α : Type} (f : AV → Option α), aLoad1 (.ptr id (i * 3) (l.length * 3)) t f = f (.int .u8 l[i].1) := fun f => by
            have := fldL (c := rcells) (j := 0) hl3 hr h (v := .int .u8 l[i].1) rfl f
            rwa [Nat.zero_add, Nat.add_zero] at this
          have b0 : ∀ {α : Type} (f : AV → Option α), aLoad1 (.ptr id ((i - 1) * 3) (l.length * 3)) t f = f (.int .u8 l[i - 1].1) := fun f => by
            have := fldL (c := rcells) (j := 0) hl3 hr h1 (v := .int .u8 l[i - 1].1) rfl f
            rwa [Nat.zero_add, Nat.add_zero] at this
          have a1 : ∀ {α : Type} (f : AV → Option α), aLoad1 (.ptr id (i * 3 + 1) (l.length * 3)) t f = f (.int .u64 l[i].2.1) := fun f => by
            have := fldL (c := rcells) (j := 1) hl3 hr h (v := .int .u64 l[i].2.1) rfl f
            rwa [Nat.zero_add] at this
          have bN : ∀ {α : Type} (f : AV → Option α), aLoadN 3 (.ptr id ((i - 1) * 3) (l.length * 3)) t f = f (.agg (rcells l[i - 1])) := fun f => by
            have := loadL (c := rcells) hl3 hr (i - 1) h1 f
            rwa [Nat.zero_add] at this
          have a1' : ∀ {α : Type} (f : AV → Option α), aLoad1 (.ptr id (i * 3 + 1) (l.length * 3)) (t.push (.cells (rcells l[i - 1]) false)) f = f (.int .u64 l[i].2.1) := fun f => by
            have := fldL (c := rcells) (j := 1) hl3 (((Ext.push t (.cells (rcells l[i - 1]) false)).get id hid).trans hr) h (v := .int .u64 l[i].2.1) rfl f
            rwa [Nat.zero_add] at this
          have hlast : lastR l[i - 1] = l[i - 1].2.1 + (l[i - 1].2.2 - 1) := rfl
          have hw64 : IntKind.u64.wrap (lastR l[i - 1] + 1) = l[i - 1].2.1 + l[i - 1].2.2 := by rw [hlast, w_u64 (by omega) (by omega)]; omega
          have hpv : prevAt l i = some l[i - 1] := by
            unfold prevAt
            rw [if_neg h0]
            exact List.getElem?_eq_getElem h1
          have fin : ∀ (b : Bool) (t' : Store), Ext s0 t' → b = !(stepOk l[i - 1] l[i]) → ∃ s', F59.p2 (k + 4) (F59.l0 (k + 4) n) (.sl id 0 l.length 3 (l.length * 3)) (.int .i64 l.length) (.int .i64 (i : Int)) (.bool b) t' = some (.bool (rowsG (prevAt l i) (l[i] :: l.drop (i + 1))), s') ∧ Ext s0 s' := by
            intro b t' et hb'
            subst hb'
            unfold F59.p2
            rw [hpv]
            cases hd : stepOk l[i - 1] l[i] with
            | false =>
              rw [Bool.not_false, if_t]
              exact ⟨_, by simp only [rowsG, hd, hok, Bool.false_and, Bool.and_false], et⟩
            | true =>
              rw [Bool.not_true, if_f]
              unfold F59.p1
              rw [add_i, hw1]
              obtain ⟨s', g1, g2⟩ := ref_rows_loop k hk hl hw hb n (i + 1) t' et (by omega) (by omega) (.inr ⟨h, hok⟩)
              refine ⟨s', ?_, g2⟩
              rw [g1, prev_ok h]
              simp only [rowsG, hd, hok, Bool.true_and]
          have hlast2 : ∀ u : Store, rn (k + 4) 69 [.agg (rcells l[i - 1])] u = some (.int .u64 (lastR l[i - 1]), u.push (.cells (rcells l[i - 1]) false)) := fun u => ref_last hw1' hok1 (k + 3)
          by_cases c1 : l[i].1 < l[i - 1].1
          · simp only [bnd, guard_tt, guard_ff, guard_tf, guard_ft, pick_t, pick_f, if_t, if_f, add_i, sub_i, lss_i, leq_i, gtr_i, geq_i, eql_i, neq_i, min_i, max_i, conv_i, len_sl, len_nil, not_b, cells_agg, new_s, fld_p, nil_p, guard_skip, hz, hm1, ix _ h, ix _ h1, Nat.zero_add, Nat.add_zero, a0, b0, aSame_self, decide_eq_true c1]
            refine fin _ t ee ?_
            unfold stepOk
            rw [decide_eq_false (by omega)]; rfl
          · by_cases c2 : l[i].1 = l[i - 1].1
            · have c2' : (l[i].1 == l[i - 1].1) = true := by simpa using c2
              simp only [bnd, guard_tt, guard_ff, guard_tf, guard_ft, pick_t, pick_f, if_t, if_f, add_i, sub_i, lss_i, leq_i, gtr_i, geq_i, eql_i, neq_i, min_i, max_i, conv_i, len_sl, len_nil, not_b, cells_agg, new_s, fld_p, nil_p, guard_skip, hz, hm1, ix _ h, ix _ h1, Nat.zero_add, Nat.add_zero, a0, b0, a1, bN, hlast2, a1', aSame_self, hw64, decide_eq_false c1, c2']
              refine fin _ _ (ee.trans (Ext.push _ _)) ?_
              unfold stepOk
              by_cases c3 : l[i].2.1 ≤ l[i - 1].2.1 + l[i - 1].2.2
              · rw [decide_eq_true c3, decide_eq_false (by omega)]; rfl
              · rw [decide_eq_false c3, decide_eq_true (.inr ⟨c2.symm, by omega⟩)]; rfl
            · have c2' : (l[i].1 == l[i - 1].1) = false := by simpa using c2
              simp only [bnd, guard_tt, guard_ff, guard_tf, guard_ft, pick_t, pick_f, if_t, if_f, add_i, sub_i, lss_i, leq_i, gtr_i, geq_i, eql_i, neq_i, min_i, max_i, conv_i, len_sl, len_nil, not_b, cells_agg, new_s, fld_p, nil_p, guard_skip, hz, hm1, ix _ h, ix _ h1, Nat.zero_add, Nat.add_zero, a0, b0, aSame_self, decide_eq_false c1, c2']
              refine fin _ t ee ?_
              unfold stepOk
              rw [decide_eq_true (.inl (by omega))]; rfl
    · rw [decide_eq_false (show ¬ (i : Int) < (l.length : Int) by omega), if_f, List.drop_eq_nil_of_le (by omega)]
      refine ⟨s, ?_, e⟩
      cases prevAt l i <;> rfl
theorem ref_rows {s : Store} {v : AV} {l : List Rn} (hl : IsRuns s v l) (hw : ∀ r ∈ l, WfR r) (k : Nat) (hk : 10 ≤ k) (hb : l.length < k) (hk2 : k ≤ 1000000) : ∃ s', rn (k + 5) 59 [v] s = some (.bool (rowsG none l), s') ∧ Ext s s' := by
  rw [F59.eq]
  unfold F59.f F59.p9 F59.p8
  rw [len_runs hl]
  obtain ⟨s', g1, g2⟩ := ref_rows_loop k hk hl hw (by omega) (k + 4) 0 s (Ext.refl s) (by omega) (by omega) (.inl rfl)
  rw [Int.natCast_zero] at g1
  exact ⟨s', g1, g2⟩
end Go.Proofs.Ytkfdgegmahbkiaa.Sim
