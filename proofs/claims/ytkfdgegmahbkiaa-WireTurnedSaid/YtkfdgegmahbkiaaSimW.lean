/- The abstract machine: slices of numbers, whole or a part of a row; strings out of bytes. Plain lemmas. No condition. -/
import Derived.Test.YtkfdgegmahbkiaaSimT
import Derived.Test.YtkfdgegmahbkiaaSimQ
namespace Go.Proofs.Ytkfdgegmahbkiaa.Sim
set_option linter.unusedSimpArgs false
set_option linter.unusedVariables false

theorem build_0 {α : Type} (f : List AV → Option α) : aBuild [] [] f = f [] := rfl
theorem build_1 {α : Type} (k : IntKind) (a z : Int) (f : List AV → Option α) : aBuild [(0, 1, .int k a)] [.int k z] f = f [.int k a] := rfl

/-- A slice of numbers: a part of a row. -/
def IsV (s : Store) (v : AV) (k : IntKind) (xs : List Int) : Prop := (v = .nilsl ∧ xs = []) ∨ ∃ (l off : Nat) (ys : List Int) (ro : Bool), v = .sl l off xs.length 1 ys.length ∧ l < s.next ∧ s.get l = .cells (ys.map (.int k)) ro ∧ off + xs.length ≤ ys.length ∧ (ys.drop off).take xs.length = xs
/-- One in a row of one's own, whole, that lies behind 'lo', if there is one. -/
def OwnV (s : Store) (v : AV) (k : IntKind) (xs : List Int) (lo : Nat) : Prop := (v = .nilsl ∧ xs = []) ∨ ∃ id, v = .sl id 0 xs.length 1 xs.length ∧ lo ≤ id ∧ id < s.next ∧ s.get id = .cells (xs.map (.int k)) false

section
variable {s s' : Store} {v : AV} {k : IntKind} {xs : List Int} {lo : Nat}
theorem OwnV.is (h : OwnV s v k xs lo) : IsV s v k xs := by
  rcases h with h | ⟨id, h1, _, h2, h3⟩
  · exact .inl h
  · exact .inr ⟨id, 0, xs, false, h1, h2, h3, by omega, by simp⟩
theorem OwnV.ext (h : OwnV s v k xs lo) (e : Ext s s') : OwnV s' v k xs lo := by
  rcases h with h | ⟨id, h1, h4, h2, h3⟩
  · exact .inl h
  · exact .inr ⟨id, h1, h4, Nat.lt_of_lt_of_le h2 e.next, by rw [e.get id h2]; exact h3⟩
theorem OwnV.mono {lo' : Nat} (h : OwnV s v k xs lo) (hl : lo' ≤ lo) : OwnV s v k xs lo' := by
  rcases h with h | ⟨id, h1, h4, h2, h3⟩
  · exact .inl h
  · exact .inr ⟨id, h1, by omega, h2, h3⟩
theorem IsV.ext (h : IsV s v k xs) (e : Ext s s') : IsV s' v k xs := by
  rcases h with h | ⟨l, off, ys, ro, h1, h2, h3, h4⟩
  · exact .inl h
  · exact .inr ⟨l, off, ys, ro, h1, Nat.lt_of_lt_of_le h2 e.next, by rw [e.get l h2]; exact h3, h4⟩
theorem IsV.lt (h : IsV s v k xs) : ∀ a b c d f, v = .sl a b c d f → a < s.next := by
  rcases h with ⟨h, _⟩ | ⟨l, off, ys, ro, h1, h2, _⟩
  · intro a b c d f e; rw [h] at e; cases e
  · intro a b c d f e; rw [h1] at e; cases e; exact h2
theorem ExtLo.isV (e : ExtLo lo s s') (h : IsV s v k xs) (hlo : ∀ a b c d f, v = .sl a b c d f → a < lo) : IsV s' v k xs := by
  rcases h with h | ⟨l, off, ys, ro, h1, h2, h3, h4⟩
  · exact .inl h
  · exact .inr ⟨l, off, ys, ro, h1, Nat.lt_of_lt_of_le h2 e.next, by rw [e.get l (hlo _ _ _ _ _ h1)]; exact h3, h4⟩
theorem lenV (h : IsV s v k xs) {α : Type} (f : AV → Option α) : aLen v f = f (.int .i64 xs.length) := by
  rcases h with ⟨rfl, rfl⟩ | ⟨_, _, _, _, rfl, _⟩ <;> rfl
theorem cellsV (h : IsV s v k xs) {α : Type} (f : List AV → Option α) : aCells v f = f [v] := by
  rcases h with ⟨rfl, _⟩ | ⟨_, _, _, _, rfl, _⟩ <;> rfl

theorem loadV {id : Nat} {ro : Bool} (hg : s.get id = .cells (xs.map (.int k)) ro) {i : Nat} (hi : i < xs.length) {α : Type} (f : AV → Option α) :
    aLoad1 (.ptr id i xs.length) s f = f (.int k (xs.getD i 0)) := by
  rw [load_1 hg (by simp) (v := .int k (xs.getD i 0)) (by simp [hi])]
theorem storeV {id : Nat} (hg : s.get id = .cells (xs.map (.int k)) false) {i : Nat} (hi : i < xs.length) {α : Type} {n : Int} (f : Store → Option α) :
    aStore 1 (.ptr id i xs.length) (.int k n) s f = f (s.set id (.cells ((xs.set i n).map (.int k)) false)) := by
  simp [aStore, aCells, aOwn, hg, putAll, show i + 1 ≤ xs.length by omega, List.map_set]
theorem idxV {id off n ep : Nat} {kk : IntKind} {i : Int} (h0 : 0 ≤ i) (hi : i < n) {α : Type} (f : AV → Option α) : aIndexSl 1 (.sl id off n 1 ep) (.int kk i) f = f (.ptr id (off + i.toNat) ep) := by
  rw [index_sl h0 hi, Nat.mul_one]
/-- An element. -/
theorem atV (h : IsV s v k xs) {i : Int} (h0 : 0 ≤ i) (hi : i < xs.length) : ∃ p, (∀ {α : Type} (kk : IntKind) (f : AV → Option α), aIndexSl 1 v (.int kk i) f = f p) ∧ ∀ {α : Type} (f : AV → Option α), aLoad1 p s f = f (.int k (xs.getD i.toNat 0)) := by
  rcases h with ⟨_, h⟩ | ⟨l, off, ys, ro, rfl, _, h3, h4, h5⟩
  · subst h; simp at hi; omega
  · refine ⟨_, fun kk f => idxV h0 hi f, fun f => ?_⟩
    rw [loadV h3 (by omega)]
    congr 2
    have : ((ys.drop off).take xs.length)[i.toNat]? = xs[i.toNat]? := by rw [h5]
    rw [List.getElem?_take, if_pos (by omega), List.getElem?_drop] at this
    simp only [List.getD_eq_getElem?_getD, this]

/-- A part of a slice. -/
theorem sliceV (h : IsV s v k xs) {a b : Nat} (hab : a ≤ b) (hb : b ≤ xs.length) : ∃ v', IsV s v' k ((xs.drop a).take (b - a)) ∧ (∀ {α : Type} (ka kb : IntKind) (f : AV → Option α), aSliceSl 1 v (some (.int ka (a : Int))) (some (.int kb (b : Int))) f = f v') ∧ (∀ a b c d f, v' = .sl a b c d f → ∃ b c d f, v = .sl a b c d f) ∧
    (a = 0 → ∀ {α : Type} (kb : IntKind) (f : AV → Option α), aSliceSl 1 v none (some (.int kb (b : Int))) f = f v') ∧ (b = xs.length → ∀ {α : Type} (ka : IntKind) (f : AV → Option α), aSliceSl 1 v (some (.int ka (a : Int))) none f = f v') := by
  rcases h with ⟨rfl, rfl⟩ | ⟨l, off, ys, ro, rfl, h2, h3, h4, h5⟩
  · have : b = 0 := by simpa using hb
    subst this
    have : a = 0 := by omega
    subst this
    exact ⟨.nilsl, .inl ⟨rfl, rfl⟩, (fun ka kb f => by simp [aSliceSl, aNum]), fun a b c d f e => by (cases e), fun _ => fun kb f => by simp [aSliceSl, aNum], fun _ => fun ka f => by simp [aSliceSl, aNum]⟩
  · have hl : ((xs.drop a).take (b - a)).length = b - a := by simp; omega
    refine ⟨.sl l (off + a) (b - a) 1 ys.length, .inr ⟨l, off + a, ys, ro, by rw [hl], h2, h3, by omega, ?_⟩, fun ka kb f => ?_, fun _ _ _ _ _ e => by (cases e; exact ⟨_, _, _, _, rfl⟩), fun h0 => fun kb f => ?_, fun h0 => fun ka f => ?_⟩
    · have e : xs.drop a = ((ys.drop (off + a)).take (xs.length - a)) := by
        rw [← h5, List.drop_take, List.drop_drop]
        simp only [List.length_take, List.length_drop]
        congr 1
        omega
      rw [hl, e, List.take_take, Nat.min_eq_left (by omega)]
    · simp only [aSliceSl, aNum]
      rw [if_pos ⟨trivial, by omega, by omega, by omega⟩]
      simp
    · subst h0
      simp only [aSliceSl, aNum]
      rw [if_pos ⟨trivial, by omega, by omega, by omega⟩]
      simp
    · simp only [aSliceSl, aNum]
      rw [if_pos ⟨trivial, by omega, by omega, by omega⟩]
      simp [h0]

/-- What an append adds. -/
theorem cellsOfV (h : IsV s v k xs) {α : Type} (f : Nat → List AV → Option α) : aCellsOf 1 v s f = f xs.length (xs.map (.int k)) := by
  rcases h with ⟨rfl, rfl⟩ | ⟨l, off, ys, ro, rfl, h2, h3, h4, h5⟩
  · rfl
  · simp only [aCellsOf, aRow, h3, if_true, List.length_map, Nat.mul_one, if_pos h4]
    rw [← List.map_drop, ← List.map_take, h5]

/-- Numbers behind numbers of one's own. -/
theorem appV {bytes : Nat} (h : OwnV s v k xs lo) (hlo : lo ≤ s.next) {y : AV} {ys : List Int} (hy : IsV s y k ys) (hb : (xs.length + ys.length) * bytes ≤ 140737488355328) (hb0 : 0 < bytes) :
    ∃ v' s', (∀ {α : Type} (f : AV → Store → Option α), aAppend 1 bytes v y s f = f v' s') ∧ OwnV s' v' k (xs ++ ys) lo ∧ ExtLo lo s s' ∧ (v ≠ .nilsl → v' ≠ .nilsl) := by
  rcases h with ⟨rfl, rfl⟩ | ⟨id, rfl, h1, h2, h3⟩
  · by_cases h0 : ys = []
    · subst h0
      exact ⟨.nilsl, s, fun f => by simp [aAppend, cellsOfV hy], .inl ⟨rfl, rfl⟩, ExtLo.refl _ _, fun q => q⟩
    · have hl : ys.length ≠ 0 := fun q => h0 (List.length_eq_zero_iff.1 q)
      refine ⟨.sl s.next 0 ys.length 1 ys.length, s.push (.cells (ys.map (.int k)) false), fun f => ?_, .inr ⟨s.next, by simp, hlo, Nat.lt_succ_self _, by rw [get_push, if_pos rfl]; simp⟩, (Ext.push s _).lo hlo, fun _ => by simp⟩
      simp only [aAppend, cellsOfV hy, Nat.mul_one]
      rw [if_neg hl, if_pos ⟨by simpa using hb, hb0⟩]
  · by_cases h0 : ys = []
    · subst h0
      exact ⟨_, s, fun f => by simp [aAppend, cellsOfV hy, aOwn, h3], .inr ⟨id, by simp, h1, h2, by simpa using h3⟩, ExtLo.refl _ _, fun q => q⟩
    · have hl : ys.length ≠ 0 := fun q => h0 (List.length_eq_zero_iff.1 q)
      refine ⟨.sl id 0 (xs.length + ys.length) 1 (xs.length + ys.length), s.set id (.cells ((xs ++ ys).map (.int k)) false), fun f => ?_, .inr ⟨id, by simp, h1, h2, by rw [get_set, if_pos rfl]⟩, ⟨Nat.le_refl _, fun j hj => by rw [get_set, if_neg (by omega)]⟩, fun _ => by simp⟩
      simp only [aAppend, cellsOfV hy, aOwn, h3, List.length_map, if_true, Nat.mul_one]
      rw [if_neg hl, if_pos ⟨by omega, hb, by omega, hb0⟩, List.map_append]
/-- One number more. -/
theorem app1V {bytes : Nat} (h : OwnV s v k xs lo) (hlo : lo ≤ s.next) (n : Int) (hb : (xs.length + 1) * bytes ≤ 140737488355328) (hb0 : 0 < bytes) :
    ∃ v' s', (∀ {α : Type} (f : AV → Store → Option α), aAppend 1 bytes v (.sl s.next 0 1 1 1) (s.push (.cells [.int k n] false)) f = f v' s') ∧ OwnV s' v' k (xs ++ [n]) lo ∧ ExtLo lo s s' ∧ v' ≠ .nilsl := by
  have e := Ext.push s (.cells [.int k n] false)
  obtain ⟨v', s', h1, h2, h3, h4⟩ := appV (s := s.push (.cells [.int k n] false)) (bytes := bytes) (h.ext e) (Nat.le_trans hlo e.next) (y := .sl s.next 0 1 1 1) (ys := [n]) (.inr ⟨s.next, 0, [n], false, rfl, Nat.lt_succ_self _, by rw [get_push, if_pos rfl]; rfl, by simp, rfl⟩) hb hb0
  refine ⟨v', s', h1, h2, (e.lo hlo).trans h3, fun q => ?_⟩
  rcases h2 with ⟨_, q2⟩ | ⟨id, q2, _⟩
  · simp at q2
  · rw [q2] at q; cases q

theorem bytesAt_map : ∀ l : List Int, bytesAt (l.map (.int .u8)) = some (l.map fun x => UInt8.ofNat x.toNat)
  | [] => rfl
  | x :: l => by simp [bytesAt, bytesAt_map l]
def strOf (l : List Int) : ByteArray := ⟨(l.map fun x => UInt8.ofNat x.toNat).toArray⟩
theorem strV (h : IsV s v .u8 xs) {α : Type} (f : AV → Option α) : aStrOf v s f = f (.str (strOf xs)) := by
  rcases h with ⟨rfl, rfl⟩ | ⟨l, off, ys, ro, rfl, h2, h3, h4, h5⟩
  · rfl
  · simp only [aStrOf, aRow, h3, List.length_map, if_true]
    rw [if_pos h4, ← List.map_drop, ← List.map_take, h5, bytesAt_map]
    rfl
theorem ba_len (b : ByteArray) : b.data.toList.length = b.size := rfl
theorem ba_loop (b : ByteArray) : ∀ (n i : Nat) (r : List UInt8), b.size - i = n → ByteArray.toList.loop b i r = r.reverse ++ b.data.toList.drop i
  | 0, i, r, h => by
    rw [ByteArray.toList.loop, if_neg (by omega), List.drop_eq_nil_of_le (by rw [ba_len]; omega), List.append_nil]
  | n + 1, i, r, h => by
    have hi : i < b.data.toList.length := by rw [ba_len]; omega
    have hi2 : i < b.size := by omega
    rw [ByteArray.toList.loop, if_pos (by omega), ba_loop b n (i + 1) _ (by omega), List.drop_eq_getElem_cons hi]
    have : b.get! i = b.data.toList[i] := by
      have h3 : i < b.data.size := hi2
      show b.data[i]! = _
      rw [getElem!_pos b.data i h3]
      rfl
    rw [this]
    simp
theorem ba_toList (b : ByteArray) : b.toList = b.data.toList := by
  unfold ByteArray.toList
  rw [ba_loop b b.size 0 [] (by omega)]
  simp
theorem strOf_inj {a b : List Int} (ha : ∀ x ∈ a, 0 ≤ x ∧ x < 256) (hb : ∀ x ∈ b, 0 ≤ x ∧ x < 256) : ((strOf a).toList == (strOf b).toList) = decide (a = b) := by
  rw [ba_toList, ba_toList]
  show ((a.map fun x => UInt8.ofNat x.toNat).toArray.toList == (b.map fun x => UInt8.ofNat x.toNat).toArray.toList) = _
  simp only [List.toList_toArray]
  by_cases h : a = b
  · subst h; simp
  · rw [decide_eq_false h]
    apply beq_eq_false_iff_ne.2
    intro e
    apply h
    have hl : a.length = b.length := by have := congrArg List.length e; simpa using this
    apply List.ext_getElem hl
    intro i h1 h2
    have e2 : (a.map fun x => UInt8.ofNat x.toNat)[i]'(by simpa using h1) = (b.map fun x => UInt8.ofNat x.toNat)[i]'(by simpa using h2) := by simp only [e]
    simp only [List.getElem_map] at e2
    have a1 := ha _ (List.getElem_mem h1)
    have b1 := hb _ (List.getElem_mem h2)
    have := congrArg UInt8.toNat e2
    simp only [UInt8.toNat_ofNat'] at this
    omega
theorem ne_str {a b : List Int} (ha : ∀ x ∈ a, 0 ≤ x ∧ x < 256) (hb : ∀ x ∈ b, 0 ≤ x ∧ x < 256) {α : Type} (f : AV → Option α) : aBin .neq (.str (strOf a)) (.str (strOf b)) f = f (.bool (!decide (a = b))) := by
  simp only [aBin, strBin, strOf_inj ha hb]
theorem eq_str_same (a : List Int) {α : Type} (f : AV → Option α) : aBin .eql (.str (strOf a)) (.str (strOf a)) f = f (.bool true) := by
  simp only [aBin, strBin, beq_self_eq_true]
/-- append([]T{}, x..). -/
theorem copyV {bytes : Nat} (h : IsV s v k xs) (hb : xs.length * bytes ≤ 140737488355328) (hb0 : 0 < bytes) : ∃ s', (∀ {α : Type} (f : AV → Store → Option α), aAppend 1 bytes (.sl s.next 0 0 1 0) v (s.push (.cells [] false)) f = f (.sl s.next 0 xs.length 1 xs.length) s') ∧ s'.get s.next = .cells (xs.map (.int k)) false ∧ s.next < s'.next ∧ Ext s s' := by
  have e := Ext.push s (.cells [] false)
  obtain ⟨v', s', h1, h2, h3, h4⟩ := appV (s := s.push (.cells [] false)) (k := k) (xs := []) (lo := s.next) (bytes := bytes) (.inr ⟨s.next, rfl, Nat.le_refl _, Nat.lt_succ_self _, by rw [get_push, if_pos rfl]; rfl⟩) e.next (h.ext e) (by simpa using hb) hb0
  rw [List.nil_append] at h2
  rcases h2 with ⟨q, _⟩ | ⟨id, rfl, i1, i2, i3⟩
  · exact absurd q (h4 (by simp))
  · have hid : id = s.next := by
      by_cases hx : xs = []
      · subst hx
        have := h1 (α := AV) fun v _ => some v
        simp [aAppend, cellsOfV (h.ext e), aOwn, get_push] at this
        exact this.symm
      · have hl : xs.length ≠ 0 := fun q => hx (List.length_eq_zero_iff.1 q)
        have := h1 (α := AV) fun v _ => some v
        simp only [aAppend, cellsOfV (h.ext e), aOwn, get_push, if_true, List.length_nil] at this
        rw [if_neg hl, if_pos ⟨by simp, by simpa using hb, by omega, hb0⟩] at this
        simp at this
        exact this.symm
    subst hid
    exact ⟨s', h1, i3, i2, ⟨Nat.le_trans e.next h3.next, fun j hj => (h3.get j hj).trans (e.get j hj)⟩⟩
end

/-- All rows but one are as they were. -/
structure Fr1 (id : Nat) (s s' : Store) : Prop where
  next : s.next ≤ s'.next
  get : ∀ l, l < s.next → l ≠ id → s'.get l = s.get l
theorem Fr1.refl (id : Nat) (s : Store) : Fr1 id s s := ⟨Nat.le_refl _, fun _ _ _ => rfl⟩
theorem Fr1.trans {id : Nat} {s s' s'' : Store} (h : Fr1 id s s') (k : Fr1 id s' s'') : Fr1 id s s'' := ⟨Nat.le_trans h.next k.next, fun l hl hn => (k.get l (Nat.lt_of_lt_of_le hl h.next) hn).trans (h.get l hl hn)⟩
theorem Ext.fr1 {s s' : Store} (h : Ext s s') (id : Nat) : Fr1 id s s' := ⟨h.next, fun l hl _ => h.get l hl⟩
theorem Fr1.ext {id : Nat} {s0 s s' : Store} (e : Ext s0 s) (h : Fr1 id s s') (hid : s0.next ≤ id) : Ext s0 s' := ⟨Nat.le_trans e.next h.next, fun l hl => (h.get l (Nat.lt_of_lt_of_le hl e.next) (by omega)).trans (e.get l hl)⟩
theorem Fr1.set (id : Nat) (s : Store) (o : AObj) : Fr1 id s (s.set id o) := ⟨Nat.le_refl _, fun l _ hn => by rw [get_set, if_neg hn]⟩
theorem IsV.fr1 {id : Nat} {s s' : Store} {v : AV} {k : IntKind} {xs : List Int} (h : IsV s v k xs) (e : Fr1 id s s') (hx : ∀ i b c d f, v = .sl i b c d f → i ≠ id) : IsV s' v k xs := by
  rcases h with h | ⟨l, off, ys, ro, h1, h2, h3, h4⟩
  · exact .inl h
  · exact .inr ⟨l, off, ys, ro, h1, Nat.lt_of_lt_of_le h2 e.next, by rw [e.get l h2 (hx _ _ _ _ _ h1)]; exact h3, h4⟩
/-- Numbers that come as an argument. -/
theorem put_num (k : IntKind) (o : Option (List Int)) (s : Store) (hw : (shSlice (shInt k)).wf o) : ∃ v xs, ((shSlice (shInt k)).put o s).1 = [v] ∧ IsV ((shSlice (shInt k)).put o s).2 v k xs ∧ (∀ x ∈ xs, (Lit.int k x).wf = true) ∧ xs.length ≤ maxLen ∧ Ext s ((shSlice (shInt k)).put o s).2 := by
  cases o with
  | none => exact ⟨.nilsl, [], rfl, .inl ⟨rfl, rfl⟩, fun x hx => by simp at hx, by simp, Ext.refl _⟩
  | some l =>
    have hp : ∀ l : List Int, (shInt k).putL l s = (l.map (.int k), s) := fun l => by
      induction l with
      | nil => rfl
      | cons x l ih => simp only [Sh.putL, shInt, List.map_cons]; simp only [shInt] at ih; rw [ih]; rfl
    obtain ⟨h1, h2⟩ := hw l rfl
    have hput : (shSlice (shInt k)).put (some l) s = ([.sl s.next 0 l.length 1 l.length], s.push (.cells (l.map (.int k)) true)) := by
      show ([AV.sl ((shInt k).putL l s).2.next 0 l.length 1 (l.length * 1)], ((shInt k).putL l s).2.push (.cells ((shInt k).putL l s).1 true)) = _
      rw [hp, Nat.mul_one]
    rw [hput]
    exact ⟨_, l, rfl, .inr ⟨s.next, 0, l, true, rfl, Nat.lt_succ_self _, by rw [get_push, if_pos rfl], by omega, by simp⟩, fun x hx => h2 x hx, h1, Ext.push _ _⟩
theorem u8_of {x : Int} (h : (Lit.int IntKind.u8 x).wf = true) : 0 ≤ x ∧ x < 256 := by
  simp [Lit.wf, IntKind.min, IntKind.max, IntKind.bits, IntKind.signed] at h; omega
theorem u64_of {x : Int} (h : (Lit.int IntKind.u64 x).wf = true) : 0 ≤ x ∧ x < 18446744073709551616 := by
  simp [Lit.wf, IntKind.min, IntKind.max, IntKind.bits, IntKind.signed] at h; omega
theorem i64_of {x : Int} (h : (Lit.int IntKind.i64 x).wf = true) : -9223372036854775808 ≤ x ∧ x < 9223372036854775808 := by
  simp [Lit.wf, IntKind.min, IntKind.max, IntKind.bits, IntKind.signed] at h; omega
end Go.Proofs.Ytkfdgegmahbkiaa.Sim
