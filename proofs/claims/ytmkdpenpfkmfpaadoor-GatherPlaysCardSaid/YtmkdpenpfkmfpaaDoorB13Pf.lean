/- Layer 13: what the document's parts and the program's have in common: plain law. No condition. -/
import Derived.Test.YtmkdpenpfkmfpaaDoorB13Pe
namespace Go.Proofs.YtmkdpenpfkmfpaaDoor.Sim
set_option linter.unusedSimpArgs false
set_option linter.unusedVariables false

theorem cutAt_at (p : List Int) (k i t : Nat) : (cutAt p k i)[t]? = if t < k then p[i * k + t]? else none := by
  unfold cutAt
  rw [List.getElem?_take]
  split
  · rw [List.getElem?_drop]
  · rfl
theorem cutAt_same {b d : List Int} {k i : Nat} (hle : i * k ≤ b.length) (hd : d.length = min k (b.length - i * k)) : cutAt (splice b d (i * k)) k i = d := by
  apply List.ext_getElem?
  intro t
  rw [cutAt_at]
  by_cases h : t < k
  · rw [if_pos h, splice_at (by omega), if_neg (by omega), Nat.add_sub_cancel_left]
    by_cases h2 : t < d.length
    · rw [if_pos h2]
    · rw [if_neg h2, List.getElem?_eq_none (by omega), List.getElem?_eq_none (by omega)]
  · rw [if_neg h, List.getElem?_eq_none (by omega)]
theorem cutAt_other {b d : List Int} {k i j : Nat} (hle : i * k ≤ b.length) (hd : d.length = min k (b.length - i * k)) (hne : j ≠ i) : cutAt (splice b d (i * k)) k j = cutAt b k j := by
  apply List.ext_getElem?
  intro t
  rw [cutAt_at, cutAt_at]
  by_cases h : t < k
  · rw [if_pos h, if_pos h, splice_at (by omega)]
    by_cases h1 : j * k + t < i * k
    · rw [if_pos h1]
    · rw [if_neg h1]
      have h2 : ¬ (j * k + t - i * k < d.length) := by
        intro h3
        rcases Nat.lt_or_gt_of_ne hne with q | q
        · have := Nat.mul_le_mul_right k (show j + 1 ≤ i from q)
          rw [Nat.succ_mul] at this
          omega
        · have := Nat.mul_le_mul_right k (show i + 1 ≤ j from q)
          rw [Nat.succ_mul] at this
          omega
      rw [if_neg h2]
  · rw [if_neg h, if_neg h]
theorem cut_all (b : List Int) (k : Nat) : ∀ n, ((List.range n).map (cutAt b k)).flatten = b.take (n * k)
  | 0 => by simp
  | n + 1 => by
    rw [List.range_succ, List.map_append, List.flatten_append, cut_all b k n]
    simp only [List.map_cons, List.map_nil, List.flatten_cons, List.flatten_nil, List.append_nil]
    unfold cutAt
    rw [Nat.succ_mul, List.take_add]

theorem GoodR.fill {chunk : Int} {q : AP} {hs : List Bool} {cs : List (List Int)} (h : GoodR chunk q hs cs) {k i : Nat} (hc : chunk = (k : Int)) (hlen : q.W.length = (q.n + 63) / 64) (hi : i < q.n) (hle : i * k ≤ q.b.length) {d : List Int} (hd : d.length = min k (q.b.length - i * k)) :
    GoodR chunk (q.fill (i : Int) (i * k) d) (hs.set i true) (cs.set i d) := by
  have hk : chunk.toNat = k := by omega
  have hbit : ∀ j, bitW (put1 q.n (q.W, 0) i).1 j = (bitW q.W j || (decide (j < q.n) && decide ((j : Int) = (i : Int)))) := fun j => put1_bit hlen 0 i j
  refine ⟨by rw [List.length_set]; exact h.hl, by rw [List.length_set]; exact h.cl, fun j hj => ?_, fun j hj hb => ?_⟩
  · show (hs.set i true)[j]? = some (bitW (put1 q.n (q.W, 0) i).1 j)
    have hj' : j < q.n := hj
    rw [hbit, List.getElem?_set]
    by_cases e : i = j
    · subst e
      rw [if_pos rfl, if_pos (by rw [h.hl]; exact hj')]
      simp [hj']
    · rw [if_neg e, h.bits j hj', decide_eq_false (show ¬ (j : Int) = (i : Int) by omega), Bool.and_false, Bool.or_false]
  · show (cs.set i d)[j]? = some (cutAt (splice q.b d (i * k)) chunk.toNat j)
    have hj' : j < q.n := hj
    have hb' : bitW (put1 q.n (q.W, 0) i).1 j = true := hb
    rw [hk, List.getElem?_set]
    by_cases e : i = j
    · subst e
      rw [if_pos rfl, if_pos (by rw [h.cl]; exact hj'), cutAt_same hle hd]
    · rw [if_neg e, cutAt_other hle hd (Ne.symm e)]
      rw [hbit, decide_eq_false (show ¬ (j : Int) = (i : Int) by omega), Bool.and_false, Bool.or_false] at hb'
      have := h.dat j hj' hb'
      rw [hk] at this
      exact this
theorem countQ_top {sz k : Nat} (h1 : 1 ≤ k) (h : sz ≤ 1048576) : countQ sz k ≤ 1048576 := by
  by_cases h0 : countQ sz k ≤ 1
  · omega
  · have h2 := countQ_at (sz := sz) (k := k) (i := countQ sz k - 1) h1 (by omega)
    have h3 := countQ_le (sz := sz) h1
    by_cases hk : k = 1
    · subst hk
      unfold countQ at h0 ⊢
      rw [Nat.add_sub_cancel, Nat.div_one] at h0 ⊢
      omega
    · have h4 : (countQ sz k - 1) * 2 ≤ (countQ sz k - 1) * k := Nat.mul_le_mul_left _ (by omega)
      omega
theorem GoodR.new {f : Frm} {chunk : Int} {n : Nat} (hn : f.of = (n : Int)) (hle : n ≤ 1048576) : GoodR chunk (AP.new f) (List.replicate n false) (List.replicate n []) := by
  have hm : (max 0 (min f.of 1048576)).toNat = n := by omega
  refine ⟨by rw [List.length_replicate]; exact hm.symm, by rw [List.length_replicate]; exact hm.symm, fun i hi => ?_, fun i hi hb => ?_⟩
  · have hi' : i < n := by rw [← hm]; exact hi
    rw [List.getElem?_replicate, if_pos hi']
    show _ = some (bitW (newW f.of) i)
    rw [newW, zero_bit]
  · have : bitW (newW f.of) i = true := hb
    rw [newW, zero_bit] at this
    cases this
/-- A part's numbers fit. -/
structure FitQ (chunk : Int) (q : AP) : Prop where
  n : (q.n : Int) = countN (q.b.length : Int) chunk
  size : q.b.length ≤ 1048576
  len : q.W.length = (q.n + 63) / 64
  tight : ∀ j, q.n ≤ j → bitW q.W j = false
theorem FitQ.pos {chunk : Int} {q : AP} (h : FitQ chunk q) (hc : 1 ≤ chunk ∧ chunk ≤ 65536) : ∃ k : Nat, chunk = (k : Int) ∧ 1 ≤ k ∧ k ≤ 65536 ∧ q.n = countQ q.b.length k := by
  obtain ⟨k, hk⟩ : ∃ k : Nat, chunk = (k : Int) := ⟨chunk.toNat, by omega⟩
  refine ⟨k, hk, by omega, by omega, ?_⟩
  have h1 := h.n
  rw [hk, countQ_eq h.size (by omega) (by omega)] at h1
  omega
theorem FitQ.top {chunk : Int} {q : AP} (h : FitQ chunk q) (hc : 1 ≤ chunk ∧ chunk ≤ 65536) : q.n ≤ 1048576 := by
  obtain ⟨k, _, k1, _, k3⟩ := h.pos hc
  rw [k3]
  exact countQ_top k1 h.size
theorem FitQ.fill {chunk : Int} {q : AP} (h : FitQ chunk q) {i off : Nat} {d : List Int} (hle : off + d.length ≤ q.b.length) : FitQ chunk (q.fill (i : Int) off d) := by
  have hb : (splice q.b d off).length = q.b.length := splice_len hle
  refine ⟨?_, ?_, ?_, fun j hj => ?_⟩
  · show (q.n : Int) = countN ((splice q.b d off).length : Int) chunk
    rw [hb]; exact h.n
  · show (splice q.b d off).length ≤ _
    rw [hb]; exact h.size
  · show (put1 q.n (q.W, 0) i).1.length = _
    rw [put1_len]; exact h.len
  · show bitW (put1 q.n (q.W, 0) i).1 j = false
    have hj' : q.n ≤ j := hj
    rw [put1_bit h.len, h.tight j hj', decide_eq_false (show ¬ j < q.n by omega), Bool.false_and, Bool.or_false]
theorem FitQ.new {f : Frm} {chunk : Int} (hn : f.of = countN f.size chunk) (h0 : 0 ≤ f.size ∧ f.size ≤ 1048576) (hc : 1 ≤ chunk ∧ chunk ≤ 65536) : FitQ chunk (AP.new f) := by
  obtain ⟨k, hk⟩ : ∃ k : Nat, chunk = (k : Int) := ⟨chunk.toNat, by omega⟩
  obtain ⟨z, hz⟩ : ∃ z : Nat, f.size = (z : Int) := ⟨f.size.toNat, by omega⟩
  have hq := countQ_eq (sz := z) (k := k) (by omega) (by omega) (by omega)
  have ht := countQ_top (sz := z) (k := k) (by omega) (by omega)
  rw [hz, hk, hq] at hn
  have hm : (max 0 (min f.of 1048576)).toNat = countQ z k := by omega
  have hb : (AP.new f).b.length = z := by show (List.replicate f.size.toNat (0 : Int)).length = _; rw [List.length_replicate]; omega
  have hnn : (AP.new f).n = countQ z k := hm
  refine ⟨by rw [hnn, hb, hk, hq], by rw [hb]; omega, ?_, fun j hj => ?_⟩
  · rw [hnn]
    show (newW f.of).length = _
    rw [newW, List.length_replicate, hm]
  · show bitW (newW f.of) j = false
    rw [newW, zero_bit]
theorem GoodR.all {chunk : Int} {q : AP} {hs : List Bool} {cs : List (List Int)} (h : GoodR chunk q hs cs) (hf : FitQ chunk q) : hs.all id = decide (cntW q.W = q.n) := by
  rw [cntW_tight hf.len hf.tight]
  have h1 : (List.range q.n).countP (bitW q.W) = q.n ↔ ∀ i, i < q.n → bitW q.W i = true := by
    have := List.countP_eq_length (p := bitW q.W) (l := List.range q.n)
    rw [List.length_range] at this
    rw [this]
    simp
  have h2 : hs.all id = true ↔ ∀ i, i < q.n → bitW q.W i = true := by
    rw [List.all_eq_true]
    constructor
    · intro q1 i hi
      have hi' : i < hs.length := by rw [h.hl]; exact hi
      have h3 := h.bits i hi
      rw [List.getElem?_eq_getElem hi'] at h3
      rw [← Option.some.inj h3]
      exact q1 _ (List.getElem_mem hi')
    · intro q1 b hb
      obtain ⟨i, hi, rfl⟩ := List.getElem_of_mem hb
      have hi' : i < q.n := by rw [← h.hl]; exact hi
      have h3 := h.bits i hi'
      rw [List.getElem?_eq_getElem hi, q1 i hi'] at h3
      exact Option.some.inj h3
  by_cases hc : (List.range q.n).countP (bitW q.W) = q.n
  · rw [decide_eq_true hc]
    exact h2.2 (h1.1 hc)
  · rw [decide_eq_false hc]
    exact Bool.eq_false_iff.2 fun e => hc (h1.2 (h2.1 e))
theorem GoodR.whole {chunk : Int} {q : AP} {hs : List Bool} {cs : List (List Int)} (h : GoodR chunk q hs cs) (hf : FitQ chunk q) (hc : 1 ≤ chunk ∧ chunk ≤ 65536) (ha : hs.all id = true) : cs.flatten = q.b := by
  obtain ⟨k, hk, k1, k2, k3⟩ := hf.pos hc
  have hkn : chunk.toNat = k := by omega
  have hall : ∀ i, i < q.n → bitW q.W i = true := fun i hi => by
    have hi' : i < hs.length := by rw [h.hl]; exact hi
    have h3 := h.bits i hi
    rw [List.getElem?_eq_getElem hi'] at h3
    rw [← Option.some.inj h3]
    exact (List.all_eq_true.1 ha) _ (List.getElem_mem hi')
  have hcs : cs = (List.range q.n).map (cutAt q.b k) := by
    apply List.ext_getElem?
    intro i
    by_cases hi : i < q.n
    · rw [h.dat i hi (hall i hi), hkn, List.getElem?_map, List.getElem?_range hi]
      rfl
    · rw [List.getElem?_eq_none (by rw [h.cl]; omega), List.getElem?_eq_none (by simp; omega)]
  rw [hcs, cut_all]
  refine List.take_of_length_le ?_
  rw [k3]
  exact countQ_all k1
theorem strOf_app (a b : List Int) : strOf a ++ strOf b = strOf (a ++ b) := by
  apply ByteArray.ext
  simp [strOf]
theorem add_str {a b : List Int} (h : a.length + b.length ≤ 4294967296) {α : Type} (f : AV → Option α) : aBin .add (.str (strOf a)) (.str (strOf b)) f = f (.str (strOf (a ++ b))) := by
  have h1 : ∀ l : List Int, (strOf l).size = l.length := fun l => by simp [strOf, ByteArray.size]
  simp only [aBin, strBin]
  rw [h1, h1, if_pos (by omega), strOf_app]
end Go.Proofs.YtmkdpenpfkmfpaaDoor.Sim
