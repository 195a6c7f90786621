/- The texts SimC, SimD, SimE, SimF, one behind the other. No condition. -/
import Derived.Test.YtkfdgegmahbkiaaSimB
import Derived.Laws.Cells
import Derived.Laws.CopyRow
import Derived.Laws.Sem
import Derived.Laws.Entries
import Derived.Laws.NewFold
import Derived.ChangeKeysEq
import Derived.Laws.BytesString
import Derived.MapKept
namespace Go.Proofs.Ytkfdgegmahbkiaa.Sim
open Go.RowKit (Below)

/-- Where a row lies: the block; from the cell 'sh' on it lies from the place 'o' on (what is ahead of 'sh' lies nowhere any more). -/
structure Loc where
  b : Nat
  o : Nat
  sh : Nat

/-- How many cells a block has. -/
def bsz (w : World) (b : Nat) : Nat :=
  match w.heap[b]? with
  | some (.cells c _ _) => c.size
  | _ => 0

/-- An abstract value stands for one of the model: ids lie where ι says, unless stale. -/
inductive VR (ι : Nat → Loc) (s : Store) (w : World) : AV → Value → Prop
  | bool (b : Bool) : VR ι s w (.bool b) (.bool b)
  | int (k : IntKind) (n : Int) : VR ι s w (.int k n) (.int k n)
  | str (x : ByteArray) : VR ι s w (.str x) (.string x)
  | ptr {l off ep : Nat} {a : Addr} (hl : l < s.next) (he : ep + 1 ≤ (s.get l).size) (ha : (s.get l).size = ep + 1 → (ι l).sh ≤ off ∧ a = ⟨(ι l).b, (ι l).o + (off - (ι l).sh), none⟩) : VR ι s w (.ptr l off ep) (.pointer (some a))
  | nilptr : VR ι s w .nilptr (.pointer none)
  | sl {l off n es ep : Nat} {a : Addr} {c : Nat} (hl : l < s.next) (he : ep + 1 ≤ (s.get l).size)
      (ha : (s.get l).size = ep + 1 → (ι l).sh ≤ off ∧ (0 < c → a = ⟨(ι l).b, (ι l).o + (off - (ι l).sh), none⟩ ∧ a.block < w.heap.size ∧ a.off + c * es ≤ bsz w a.block)) (hc : n ≤ c) (hr : ep ≤ off + c * es) : VR ι s w (.sl l off n es ep) (.slice (some a) n c)
  | nilsl : VR ι s w .nilsl (.slice none 0 0)
  | map {l r : Nat} (hl : l < s.next) (he : 1 ≤ (s.get l).size) (ha : (s.get l).size = 1 → r = (ι l).b) : VR ι s w (.map l) (.map (some r))
  | nilmap : VR ι s w .nilmap (.map none)
  | func {f : Nat} {first cap : List AV} {first' cap' : Array Value} (h1 : first.length = first'.size) (h2 : ∀ (i : Nat) x y, first[i]? = some x → first'[i]? = some y → VR ι s w x y)
      (h3 : cap.length = cap'.size) (h4 : ∀ (i : Nat) x y, cap[i]? = some x → cap'[i]? = some y → VR ι s w x y) : VR ι s w (.func f first cap) (.func (.func f) first' cap')
  | nilfunc : VR ι s w .nilfunc .nilFunc
  | iface {t : Nat} {v : AV} {v' : Value} (h : VR ι s w v v') : VR ι s w (.iface t v) (.iface t v')
  | meth {n : String} {v : AV} {v' : Value} {c : Array Value} (h : VR ι s w v v') : VR ι s w (.meth n v) (.func (.method n) #[v'] c)
  | nilif : VR ι s w .nilif .nilIface
  | agg {vs : List AV} {vs' : Array Value} (h1 : vs.length = vs'.size) (h2 : ∀ (i : Nat) x y, vs[i]? = some x → vs'[i]? = some y → VR ι s w x y) (h3 : ∀ y ∈ vs'.toList, y.oneCell' = true) : VR ι s w (.agg vs) (.agg vs')
  | tuple {vs : List AV} {vs' : Array Value} (h1 : vs.length = vs'.size) (h2 : ∀ (i : Nat) x y, vs[i]? = some x → vs'[i]? = some y → VR ι s w x y) : VR ι s w (.tuple vs) (.tuple vs')
  | junk (v : Value) : VR ι s w .junk v

/-- A later state: ids stay where they are, unless their rows have grown. -/
structure Later (ι : Nat → Loc) (s : Store) (w : World) (ι' : Nat → Loc) (s' : Store) (w' : World) : Prop where
  next : s.next ≤ s'.next
  sz : ∀ l, l < s.next → (s.get l).size ≤ (s'.get l).size
  loc : ∀ l, l < s.next → (s'.get l).size = (s.get l).size → ι' l = ι l
  bs : ∀ b, b < w.heap.size → bsz w' b = bsz w b
  hs : w.heap.size ≤ w'.heap.size

theorem Later.refl (ι : Nat → Loc) (s : Store) (w : World) : Later ι s w ι s w := ⟨Nat.le_refl _, fun _ _ => Nat.le_refl _, fun _ _ _ => rfl, fun _ _ => rfl, Nat.le_refl _⟩
theorem Later.trans {ι ι' ι'' : Nat → Loc} {s s' s'' : Store} {w w' w'' : World} (h : Later ι s w ι' s' w') (k : Later ι' s' w' ι'' s'' w'') : Later ι s w ι'' s'' w'' :=
  ⟨Nat.le_trans h.next k.next, fun l hl => Nat.le_trans (h.sz l hl) (k.sz l (Nat.lt_of_lt_of_le hl h.next)), fun l hl e => by
    have h1 := h.sz l hl
    have h2 := k.sz l (Nat.lt_of_lt_of_le hl h.next)
    rw [k.loc l (Nat.lt_of_lt_of_le hl h.next) (by omega), h.loc l hl (by omega)],
   fun b hb => (k.bs b (Nat.lt_of_lt_of_le hb h.hs)).trans (h.bs b hb), Nat.le_trans h.hs k.hs⟩

theorem VR.later {ι ι' : Nat → Loc} {s s' : Store} {w w' : World} {x : AV} {y : Value} (h : VR ι s w x y) (k : Later ι s w ι' s' w') : VR ι' s' w' x y := by
  induction h with
  | bool b => exact .bool b
  | int kk n => exact .int kk n
  | str x => exact .str x
  | ptr hl he ha =>
    have := k.sz _ hl
    refine .ptr (Nat.lt_of_lt_of_le hl k.next) (Nat.le_trans he this) (fun e => ?_)
    obtain ⟨h1, h2⟩ := ha (by omega)
    rw [k.loc _ hl (by omega)]; exact ⟨h1, h2⟩
  | nilptr => exact .nilptr
  | sl hl he ha hc hr =>
    have := k.sz _ hl
    refine .sl (Nat.lt_of_lt_of_le hl k.next) (Nat.le_trans he this) (fun e => ?_) hc hr
    obtain ⟨h0, h4⟩ := ha (by omega)
    rw [k.loc _ hl (by omega)]
    refine ⟨h0, fun hc0 => ?_⟩
    obtain ⟨h1, h2, h3⟩ := h4 hc0
    exact ⟨h1, Nat.lt_of_lt_of_le h2 k.hs, by rw [k.bs _ h2]; exact h3⟩
  | nilsl => exact .nilsl
  | map hl he ha =>
    have := k.sz _ hl
    exact .map (Nat.lt_of_lt_of_le hl k.next) (Nat.le_trans he this) (fun e => by rw [ha (by omega), k.loc _ hl (by omega)])
  | nilmap => exact .nilmap
  | func h1 _ h3 _ ih2 ih4 => exact .func h1 (fun i x y hx hy => ih2 i x y hx hy) h3 (fun i x y hx hy => ih4 i x y hx hy)
  | nilfunc => exact .nilfunc
  | iface _ ih => exact .iface ih
  | meth _ ih => exact .meth ih
  | nilif => exact .nilif
  | agg h1 _ h3 ih => exact .agg h1 (fun i x y hx hy => ih i x y hx hy) h3
  | tuple h1 _ ih => exact .tuple h1 (fun i x y hx hy => ih i x y hx hy)
  | junk v => exact .junk v

/-- Rows of values, pointwise. -/
def VRs (ι : Nat → Loc) (s : Store) (w : World) (xs : List AV) (ys : List Value) : Prop := xs.length = ys.length ∧ ∀ (i : Nat) x y, xs[i]? = some x → ys[i]? = some y → VR ι s w x y
theorem VRs.later {ι ι' : Nat → Loc} {s s' : Store} {w w' : World} {xs : List AV} {ys : List Value} (h : VRs ι s w xs ys) (k : Later ι s w ι' s' w') : VRs ι' s' w' xs ys := ⟨h.1, fun i x y hx hy => (h.2 i x y hx hy).later k⟩
theorem VRs.nil (ι : Nat → Loc) (s : Store) (w : World) : VRs ι s w [] [] := ⟨rfl, fun i x y hx => by simp at hx⟩
theorem VRs.cons {ι : Nat → Loc} {s : Store} {w : World} {x : AV} {y : Value} {xs : List AV} {ys : List Value} (h : VR ι s w x y) (k : VRs ι s w xs ys) : VRs ι s w (x :: xs) (y :: ys) := by
  refine ⟨by simp [k.1], fun i a b ha hb => ?_⟩
  cases i with
  | zero =>
    simp only [List.getElem?_cons_zero, Option.some.injEq] at ha hb
    subst ha; subst hb; exact h
  | succ i => exact k.2 i a b (by simpa using ha) (by simpa using hb)
theorem VRs.append {ι : Nat → Loc} {s : Store} {w : World} {xs xs' : List AV} {ys ys' : List Value} (h : VRs ι s w xs ys) (k : VRs ι s w xs' ys') : VRs ι s w (xs ++ xs') (ys ++ ys') := by
  refine ⟨by simp [h.1, k.1], fun i a b ha hb => ?_⟩
  by_cases hi : i < xs.length
  · rw [List.getElem?_append_left hi] at ha
    rw [List.getElem?_append_left (by rw [← h.1]; exact hi)] at hb
    exact h.2 i a b ha hb
  · rw [List.getElem?_append_right (by omega)] at ha
    rw [List.getElem?_append_right (by rw [← h.1]; omega), ← h.1] at hb
    exact k.2 _ a b ha hb
theorem VRs.take {ι : Nat → Loc} {s : Store} {w : World} {xs : List AV} {ys : List Value} (h : VRs ι s w xs ys) (n : Nat) : VRs ι s w (xs.take n) (ys.take n) := by
  refine ⟨by simp [h.1], fun i a b ha hb => ?_⟩
  rw [List.getElem?_take] at ha hb
  split at ha
  · rw [if_pos (by assumption)] at hb; exact h.2 i a b ha hb
  · cases ha
theorem VRs.drop {ι : Nat → Loc} {s : Store} {w : World} {xs : List AV} {ys : List Value} (h : VRs ι s w xs ys) (n : Nat) : VRs ι s w (xs.drop n) (ys.drop n) := by
  refine ⟨by simp [h.1], fun i a b ha hb => ?_⟩
  rw [List.getElem?_drop] at ha hb
  exact h.2 _ a b ha hb
theorem VRs.get {ι : Nat → Loc} {s : Store} {w : World} {xs : List AV} {ys : List Value} (h : VRs ι s w xs ys) {i : Nat} {x : AV} (hx : xs[i]? = some x) : ∃ y, ys[i]? = some y ∧ VR ι s w x y := by
  have hi := (List.getElem?_eq_some_iff.1 hx).1
  have hi' : i < ys.length := by rw [← h.1]; exact hi
  exact ⟨ys[i], List.getElem?_eq_getElem hi', h.2 i x _ hx (List.getElem?_eq_getElem hi')⟩
theorem VRs.set {ι : Nat → Loc} {s : Store} {w : World} {xs : List AV} {ys : List Value} (h : VRs ι s w xs ys) (i : Nat) {x : AV} {y : Value} (hx : VR ι s w x y) : VRs ι s w (xs.set i x) (ys.set i y) := by
  refine ⟨by simp [h.1], fun j a b ha hb => ?_⟩
  rw [List.getElem?_set] at ha hb
  by_cases e : i = j
  · rw [if_pos e] at ha hb
    have := h.1
    split at ha
    · rw [if_pos (by omega)] at hb
      simp only [Option.some.injEq] at ha hb
      subst ha; subst hb; exact hx
    · cases ha
  · rw [if_neg e] at ha hb; exact h.2 j a b ha hb
theorem VRs.replicate {ι : Nat → Loc} {s : Store} {w : World} {xs : List AV} {ys : List Value} (h : VRs ι s w xs ys) (n : Nat) : VRs ι s w (List.replicate n xs).flatten (List.replicate n ys).flatten := by
  induction n with
  | zero => exact VRs.nil _ _ _
  | succ n ih => rw [List.replicate_succ, List.replicate_succ, List.flatten_cons, List.flatten_cons]; exact h.append ih

/-- A row of the abstract store lies in a block, from a place on; one that may be written lies in a block from B on, without frozen cells. -/
def OR (B : Nat) (ι : Nat → Loc) (s : Store) (w : World) (o : AObj) (p : Loc) : Prop :=
  match o with
  | .none => True
  | .cells xs ro => (xs = [] ∧ ro = true) ∨ ∃ (c : Array Value) (ty : TypeId) (fz : Nat × Nat), w.heap[p.b]? = some (.cells c ty fz) ∧ p.sh ≤ xs.length ∧ p.o + (xs.length - p.sh) ≤ c.size ∧ VRs ι s w (xs.drop p.sh) ((c.toList.drop p.o).take (xs.length - p.sh)) ∧
      (∀ y ∈ (c.toList.drop p.o).take (xs.length - p.sh), y.oneCell' = true) ∧ (ro = false → fz = (0, 0) ∧ B ≤ p.b)
  | .map es st => ∃ (ents : Array MapEntry) (clock : Nat), w.heap[p.b]? = some (.map ents clock) ∧ B ≤ p.b ∧ es.length = ents.size ∧
      (∀ (i : Nat) k v, es[i]? = some (k, v) → ∃ e, ents[i]? = some e ∧ VR ι s w k e.key ∧ VR ι s w v e.val) ∧ st = (ents.toList.map (·.born), clock)
  | .miter m since seen last => ∃ m' : Option Nat, w.heap[p.b]? = some (.mapIter m' since seen.toArray last) ∧ B ≤ p.b ∧ VR ι s w m (.map m') ∧ p.o = 0
  | .siter b pos => w.heap[p.b]? = some (.stringIter b pos) ∧ B ≤ p.b ∧ p.o = 0

theorem OR.later {B : Nat} {ι ι' : Nat → Loc} {s s' : Store} {w w' : World} {o : AObj} {p : Loc} (h : OR B ι s w o p) (k : Later ι s w ι' s' w') (hw : o.live = true → w'.heap[p.b]? = w.heap[p.b]?) : OR B ι' s' w' o p := by
  cases o with
  | none => trivial
  | cells xs ro =>
    rcases h with h | ⟨c, ty, fz, h1, h0, h2, h3, h4⟩
    · exact .inl h
    · by_cases hl : (AObj.cells xs ro).live = true
      · exact .inr ⟨c, ty, fz, (hw hl).trans h1, h0, h2, h3.later k, h4⟩
      · exact .inl (by simpa [AObj.live] using hl)
  | map es st =>
    obtain ⟨ents, clock, h1, h2, h3, h4, h8⟩ := h
    refine ⟨ents, clock, (hw rfl).trans h1, h2, h3, fun i kk v hi => ?_, h8⟩
    obtain ⟨e, h5, h6, h7⟩ := h4 i kk v hi
    exact ⟨e, h5, h6.later k, h7.later k⟩
  | miter m since seen last =>
    obtain ⟨m', h1, h2, h3, h4⟩ := h
    exact ⟨m', (hw rfl).trans h1, h2, h3.later k, h4⟩
  | siter b pos => exact ⟨(hw rfl).trans h.1, h.2⟩

theorem AObj.live_wr {o : AObj} (h : o.wr = true) : o.live = true := by
  cases o with
  | none => cases h
  | cells xs ro => simp [AObj.wr] at h; simp [AObj.live, h]
  | map es st => rfl
  | miter m since seen last => rfl
  | siter b pos => rfl

/-- The abstract store stands for the world. -/
structure WR (B : Nat) (w0 : World) (ι : Nat → Loc) (s : Store) (w : World) : Prop where
  bel : Below B w0 w
  hB : B ≤ w.heap.size
  obj : ∀ l, l < s.next → OR B ι s w (s.get l) (ι l)
  sep : ∀ l l', l < s.next → l' < s.next → l ≠ l' → (s.get l).wr = true → (s.get l').live = true → (ι l).b ≠ (ι l').b
  glob : ∀ g, VR ι s w (gvA g) (.pointer (some ⟨g, 0, none⟩))

theorem bsz_same {w w' : World} {b : Nat} (h : w'.heap[b]? = w.heap[b]?) : bsz w' b = bsz w b := by unfold bsz; rw [h]

theorem WR.draw {B : Nat} {w0 : World} {ι : Nat → Loc} {s : Store} {w w' : World} (h : WR B w0 ι s w) (h1 : w'.heap = w.heap) (h2 : w'.os = w.os) (h3 : w'.tape = w.tape) (h4 : w'.output = w.output) :
    WR B w0 ι s w' ∧ Later ι s w ι s w' := by
  have k : Later ι s w ι s w' := ⟨Nat.le_refl _, fun _ _ => Nat.le_refl _, fun _ _ _ => rfl, fun b _ => bsz_same (by rw [h1]), by rw [h1]; exact Nat.le_refl _⟩
  refine ⟨⟨⟨h2.trans h.bel.os, h3.trans h.bel.tape, h4.trans h.bel.output, by rw [h1]; exact h.bel.size, fun b hb => by rw [h1]; exact h.bel.block b hb⟩, by rw [h1]; exact h.hB, fun l hl => (h.obj l hl).later k (fun _ => by rw [h1]), h.sep, fun g => (h.glob g).later k⟩, k⟩

theorem heap_lt {w : World} {b : Nat} {o : Obj} (h : w.heap[b]? = some o) : b < w.heap.size := (Array.getElem?_eq_some_iff.1 h).1

/-- Where an existing row lies there is a block. -/
theorem WR.lt {B : Nat} {w0 : World} {ι : Nat → Loc} {s : Store} {w : World} (h : WR B w0 ι s w) {l : Nat} (hl : l < s.next) (hn : (s.get l).live = true) : (ι l).b < w.heap.size := by
  have := h.obj l hl
  cases hg : s.get l with
  | none => rw [hg] at hn; cases hn
  | cells xs ro =>
    rw [hg] at this hn
    rcases this with ⟨h1, h2⟩ | ⟨c, ty, fz, h1, _⟩
    · subst h1; subst h2; cases hn
    · exact heap_lt h1
  | map es st => rw [hg] at this; obtain ⟨c, ty, h1, _⟩ := this; exact heap_lt h1
  | miter m since seen last => rw [hg] at this; obtain ⟨m', h1, _⟩ := this; exact heap_lt h1
  | siter b pos => rw [hg] at this; exact heap_lt this.1

/-- A new row. -/
theorem WR.push {B : Nat} {w0 : World} {ι : Nat → Loc} {s : Store} {w w' : World} (h : WR B w0 ι s w) (o : AObj) (p : Loc) (h2 : w'.os = w.os) (h3 : w'.tape = w.tape) (h4 : w'.output = w.output)
    (hs : w.heap.size ≤ w'.heap.size) (hb : ∀ b, b < w.heap.size → w'.heap[b]? = w.heap[b]?) (hp : w.heap.size ≤ p.b)
    (ho : Later ι s w (fun j => if j = s.next then p else ι j) (s.push o) w' → OR B (fun j => if j = s.next then p else ι j) (s.push o) w' o p) :
    WR B w0 (fun j => if j = s.next then p else ι j) (s.push o) w' ∧ Later ι s w (fun j => if j = s.next then p else ι j) (s.push o) w' := by
  have g : ∀ l, l < s.next → (s.push o).get l = s.get l := fun l hl => by simp only [Store.push]; rw [if_neg (by omega)]
  have k : Later ι s w (fun j => if j = s.next then p else ι j) (s.push o) w' :=
    ⟨by simp [Store.push], fun l hl => by rw [g l hl]; exact Nat.le_refl _, fun l hl _ => if_neg (by omega), fun b hb' => bsz_same (hb b hb'), hs⟩
  refine ⟨⟨⟨h2.trans h.bel.os, h3.trans h.bel.tape, h4.trans h.bel.output, Nat.le_trans h.bel.size hs, fun b hb' => (hb b (Nat.lt_of_lt_of_le hb' h.hB)).trans (h.bel.block b hb')⟩, Nat.le_trans h.hB hs, fun l hl => ?_, fun l l' hl hl' hne hw hn => ?_, fun g => (h.glob g).later k⟩, k⟩
  · by_cases e : l = s.next
    · subst e
      simp only [if_pos]
      have : (s.push o).get s.next = o := by simp [Store.push]
      rw [this]; exact ho k
    · have hl2 : l < s.next := by simp only [Store.push] at hl; omega
      rw [g l hl2]
      simp only [if_neg e]
      exact (h.obj l hl2).later k (fun hn => hb _ (h.lt hl2 hn))
  · have hlt : ∀ j, j < (s.push o).next → j ≠ s.next → j < s.next := fun j hj e => by simp only [Store.push] at hj; omega
    by_cases e : l = s.next
    · have e' : l' ≠ s.next := fun q => hne (e.trans q.symm)
      have hl2 := hlt l' hl' e'
      rw [g l' hl2] at hn
      have := h.lt hl2 hn
      simp only [if_pos e, if_neg e']
      omega
    · have hl2 := hlt l hl e
      rw [g l hl2] at hw
      have hwl := AObj.live_wr hw
      by_cases e' : l' = s.next
      · have := h.lt hl2 hwl
        simp only [if_neg e, if_pos e']
        omega
      · have hl3 := hlt l' hl' e'
        rw [g l' hl3] at hn
        simp only [if_neg e, if_neg e']
        exact h.sep l l' hl2 hl3 hne hw hn

/-- A row that may be written is another one now: in its block, or in a new one. -/
theorem WR.update {B : Nat} {w0 : World} {ι : Nat → Loc} {s : Store} {w w' : World} (h : WR B w0 ι s w) {l : Nat} (hl : l < s.next) (hwr : (s.get l).wr = true) (hge : B ≤ (ι l).b) (o : AObj) (p : Loc)
    (hsz : (s.get l).size ≤ o.size) (hmv : o.size = (s.get l).size → p = ι l) (h2 : w'.os = w.os) (h3 : w'.tape = w.tape) (h4 : w'.output = w.output)
    (hs : w.heap.size ≤ w'.heap.size) (hb : ∀ b, b < w.heap.size → b ≠ (ι l).b → w'.heap[b]? = w.heap[b]?) (hbs : bsz w' (ι l).b = bsz w (ι l).b) (hp : p.b = (ι l).b ∨ w.heap.size ≤ p.b)
    (ho : Later ι s w (fun j => if j = l then p else ι j) (s.set l o) w' → OR B (fun j => if j = l then p else ι j) (s.set l o) w' o p) :
    WR B w0 (fun j => if j = l then p else ι j) (s.set l o) w' ∧ Later ι s w (fun j => if j = l then p else ι j) (s.set l o) w' := by
  have g : ∀ j, j ≠ l → (s.set l o).get j = s.get j := fun j hj => by simp only [Store.set]; rw [if_neg hj]
  have gl : (s.set l o).get l = o := by simp [Store.set]
  have hln := AObj.live_wr hwr
  have k : Later ι s w (fun j => if j = l then p else ι j) (s.set l o) w' := by
    refine ⟨Nat.le_refl _, fun j _ => ?_, fun j _ e => ?_, fun b hb' => ?_, hs⟩
    · by_cases e : j = l
      · subst e; rw [gl]; exact hsz
      · rw [g j e]; exact Nat.le_refl _
    · by_cases e' : j = l
      · subst e'; rw [gl] at e; simp only [if_pos]; exact hmv e
      · simp only [if_neg e']
    · by_cases e : b = (ι l).b
      · rw [e]; exact hbs
      · exact bsz_same (hb b hb' e)
  refine ⟨⟨⟨h2.trans h.bel.os, h3.trans h.bel.tape, h4.trans h.bel.output, Nat.le_trans h.bel.size hs, fun b hb' => (hb b (Nat.lt_of_lt_of_le hb' h.hB) (by omega)).trans (h.bel.block b hb')⟩, Nat.le_trans h.hB hs, fun j hj => ?_, fun j j' hj hj' hne hw hn => ?_, fun g => (h.glob g).later k⟩, k⟩
  · by_cases e : j = l
    · subst e
      rw [gl]
      simp only [if_pos]
      exact ho k
    · rw [g j e]
      simp only [if_neg e]
      exact (h.obj j hj).later k (fun hn => hb _ (h.lt hj hn) (fun q => h.sep l j hl hj (fun z => e z.symm) hwr hn q.symm))
  · by_cases e : j = l
    · have e' : j' ≠ l := fun q => hne (e.trans q.symm)
      rw [g j' e'] at hn
      simp only [if_pos e, if_neg e']
      rcases hp with hp | hp
      · rw [hp]; exact h.sep l j' hl hj' (fun z => e' z.symm) hwr hn
      · have := h.lt hj' hn; omega
    · rw [g j e] at hw
      have hjn := AObj.live_wr hw
      by_cases e' : j' = l
      · simp only [if_neg e, if_pos e']
        rcases hp with hp | hp
        · rw [hp]; exact h.sep j l hj hl e hw hln
        · have := h.lt hj hjn; omega
      · rw [g j' e'] at hn
        simp only [if_neg e, if_neg e']
        exact h.sep j j' hj hj' hne hw hn
end Go.Proofs.Ytkfdgegmahbkiaa.Sim
namespace Go.Proofs.Ytkfdgegmahbkiaa.Sim
open Go.RowKit (Below)

section
variable {P : Program} {B : Nat} {w0 : World} {ι : Nat → Loc} {s : Store} {w : World} {α : Type} {r : α}

theorem row_of {l ep : Nat} {f : List AV → Option α} (h : aRow l ep s f = some r) : ∃ xs ro, s.get l = .cells xs ro ∧ xs.length = ep ∧ f xs = some r := by
  unfold aRow at h
  split at h
  · rename_i xs ro hg
    split at h
    · rename_i he; exact ⟨xs, ro, hg, he, h⟩
    · cases h
  · cases h

theorem own_of {l ep : Nat} {f : List AV → Option α} (h : aOwn l ep s f = some r) : ∃ xs, s.get l = .cells xs false ∧ xs.length = ep ∧ f xs = some r := by
  unfold aOwn at h
  split at h
  · rename_i xs hg
    split at h
    · rename_i he; exact ⟨xs, hg, he, h⟩
    · cases h
  · cases h

theorem cells_of (hW : WR B w0 ι s w) {l : Nat} {xs : List AV} {ro : Bool} (hl : l < s.next) (hg : s.get l = .cells xs ro) (hlv : 0 < xs.length ∨ ro = false) :
    ∃ (c : Array Value) (ty : TypeId) (fz : Nat × Nat), w.heap[(ι l).b]? = some (.cells c ty fz) ∧ (ι l).sh ≤ xs.length ∧ (ι l).o + (xs.length - (ι l).sh) ≤ c.size ∧ VRs ι s w (xs.drop (ι l).sh) ((c.toList.drop (ι l).o).take (xs.length - (ι l).sh)) ∧
      (∀ y ∈ (c.toList.drop (ι l).o).take (xs.length - (ι l).sh), y.oneCell' = true) ∧ (ro = false → fz = (0, 0) ∧ B ≤ (ι l).b) := by
  have := hW.obj l hl
  rw [hg] at this
  rcases this with ⟨h1, h2⟩ | this
  · subst h1; subst h2; simp at hlv
  · exact this

theorem add_mk (b o j : Nat) : (⟨b, o, none⟩ : Addr).add j = ⟨b, o + j, none⟩ := by unfold Addr.add; split <;> simp_all

/-- n cells from a place on. -/
theorem cells_at (hW : WR B w0 ι s w) {l : Nat} {xs : List AV} {ro : Bool} (hl : l < s.next) (hg : s.get l = .cells xs ro) (off n : Nat) (hn : off + n ≤ xs.length) (hsh : (ι l).sh ≤ off) :
    ∃ ys : List Value, ys.length = n ∧ VRs ι s w ((xs.drop off).take n) ys ∧ (∀ y ∈ ys, y.oneCell' = true) ∧ ∀ j v, ys[j]? = some v → w.cell? ((⟨(ι l).b, (ι l).o + (off - (ι l).sh), none⟩ : Addr).add j) = some v := by
  by_cases hz : n = 0
  · subst hz
    exact ⟨[], rfl, by simpa using VRs.nil ι s w, fun y hy => by simp at hy, fun j v hj => by simp at hj⟩
  obtain ⟨c, ty, fz, h1, h0, h2, h3, h5, _⟩ := cells_of hW hl hg (.inl (by omega))
  have h4 := (h3.drop (off - (ι l).sh)).take n
  rw [List.drop_drop, show (ι l).sh + (off - (ι l).sh) = off by omega] at h4
  refine ⟨_, ?_, h4, fun y hy => h5 y (List.mem_of_mem_drop (List.mem_of_mem_take hy)), fun j v hj => ?_⟩
  · rw [← h4.1, List.length_take, List.length_drop]; omega
  · have hjl := (List.getElem?_eq_some_iff.1 hj).1
    rw [← h4.1, List.length_take, List.length_drop] at hjl
    rw [List.getElem?_take, if_pos (by omega), List.getElem?_drop, List.getElem?_take, if_pos (by omega), List.getElem?_drop] at hj
    rw [add_mk]
    simp only [World.cell?, h1, Option.isSome_none, Bool.false_eq_true, if_false]
    rw [Array.getElem?_toList] at hj
    rw [← hj]; congr 1; omega

theorem cell_at (hW : WR B w0 ι s w) {l : Nat} {xs : List AV} {ro : Bool} (hl : l < s.next) (hg : s.get l = .cells xs ro) {i : Nat} {v : AV} (hv : xs[i]? = some v) (hsh : (ι l).sh ≤ i) :
    ∃ v', w.cell? ⟨(ι l).b, (ι l).o + (i - (ι l).sh), none⟩ = some v' ∧ VR ι s w v v' ∧ v'.oneCell' = true := by
  have hi := (List.getElem?_eq_some_iff.1 hv).1
  obtain ⟨ys, h1, h2, h3, h4⟩ := cells_at hW hl hg i 1 (by omega) hsh
  have hx : ((xs.drop i).take 1)[0]? = some v := by rw [List.getElem?_take, if_pos (by omega), List.getElem?_drop]; exact hv
  obtain ⟨y, hy, hr⟩ := h2.get hx
  have := h4 0 y hy
  rw [add_mk] at this
  exact ⟨y, this, hr, h3 y (List.mem_of_getElem? hy)⟩

theorem load1_sound {p : AV} {p' : Value} {f : AV → Option α} (h : aLoad1 p s f = some r) (hp : VR ι s w p p') (hW : WR B w0 ι s w) :
    ∃ a v v', p' = .pointer (some a) ∧ f v = some r ∧ w.cell? a = some v' ∧ VR ι s w v v' ∧ v'.oneCell' = true := by
  unfold aLoad1 at h
  split at h
  · rename_i l off ep
    obtain ⟨xs, ro, hg, he, h⟩ := row_of h
    cases hp with
    | ptr hl he' ha =>
      split at h
      · rename_i v hv
        obtain ⟨hsh, hadr⟩ := ha (by rw [hg]; show _ + 1 = _ + 1; omega)
        obtain ⟨v', h1, h2, h3⟩ := cell_at hW hl hg hv hsh
        refine ⟨_, v, v', rfl, h, ?_, h2, h3⟩
        rw [hadr]; exact h1
      · cases h
  · cases h

theorem loadN_sound {p : AV} {p' : Value} {n : Nat} {f : AV → Option α} (h : aLoadN n p s f = some r) (hp : VR ι s w p p') (hW : WR B w0 ι s w) :
    ∃ a vs ys, p' = .pointer (some a) ∧ f (.agg vs) = some r ∧ (loadCells a n).run P w = .ok ys.toArray w ∧ VRs ι s w vs ys ∧ ∀ y ∈ ys, y.oneCell' = true := by
  unfold aLoadN at h
  split at h
  · rename_i l off ep
    obtain ⟨xs, ro, hg, he, h⟩ := row_of h
    cases hp with
    | ptr hl he' ha =>
      split at h
      · rename_i hn
        obtain ⟨hsh, hadr⟩ := ha (by rw [hg]; show _ + 1 = _ + 1; omega)
        obtain ⟨ys, h1, h2, h4, h3⟩ := cells_at hW hl hg off n hn hsh
        refine ⟨_, _, ys, rfl, h, ?_, h2, h4⟩
        rw [hadr, ← h1]
        exact run_loadCells_list (P := P) w _ ys h3
      · cases h
  · cases h

theorem VRs.agg {vs : List AV} {ys : List Value} (h : VRs ι s w vs ys) (h1 : ∀ y ∈ ys, y.oneCell' = true) : VR ι s w (.agg vs) (.agg ys.toArray) :=
  .agg (by simp [h.1]) (fun i x y hx hy => h.2 i x y hx (by simpa using hy)) (by simpa using h1)
theorem VRs.tup {vs : List AV} {ys : List Value} (h : VRs ι s w vs ys) : VR ι s w (.tuple vs) (.tuple ys.toArray) :=
  .tuple (by simp [h.1]) (fun i x y hx hy => h.2 i x y hx (by simpa using hy))

/-- The cells of a value. -/
theorem aCells_sound {x : AV} {x' : Value} {f : List AV → Option α} (h : aCells x f = some r) (hx : VR ι s w x x') : ∃ cs, f cs = some r ∧ VRs ι s w cs x'.cells.toList ∧ ∀ y ∈ x'.cells.toList, y.oneCell' = true := by
  have one : ∀ v : AV, ∀ v' : Value, VR ι s w v v' → v'.cells = #[v'] → v'.oneCell' = true → VRs ι s w [v] v'.cells.toList ∧ ∀ y ∈ v'.cells.toList, y.oneCell' = true := fun v v' hv he h1 => by
    rw [he]; exact ⟨.cons hv (.nil _ _ _), by simpa using h1⟩
  unfold aCells at h
  split at h
  · rename_i vs
    cases hx with
    | agg h1 h2 h3 => exact ⟨vs, h, ⟨by simpa [Value.cells] using h1, fun i a b ha hb => h2 i a b ha (by simpa [Value.cells] using hb)⟩, by simpa [Value.cells] using h3⟩
  · cases h
  · cases h
  · rename_i v h1 h2 h3
    refine ⟨_, h, one _ _ hx ?_ ?_⟩
    · cases hx <;> first | rfl | (exact absurd rfl (h1 _)) | (exact absurd rfl (h2 _)) | exact absurd rfl h3
    · cases hx <;> first | rfl | (exact absurd rfl (h1 _)) | (exact absurd rfl (h2 _)) | exact absurd rfl h3

/-- A new row of these cells, and maybe more behind. -/
theorem push_cells (hW : WR B w0 ι s w) {cs : List AV} {c : Array Value} (ty : TypeId) (fz : Nat × Nat) (ro : Bool) {w' : World} (hw : w'.heap = w.heap.push (.cells c ty fz)) (h2 : w'.os = w.os) (h3 : w'.tape = w.tape) (h4 : w'.output = w.output)
    (hc : VRs ι s w cs (c.toList.take cs.length)) (h1 : ∀ y ∈ c.toList.take cs.length, y.oneCell' = true) (hro : ro = false → fz = (0, 0)) :
    ∃ ι', WR B w0 ι' (s.push (.cells cs ro)) w' ∧ Later ι s w ι' (s.push (.cells cs ro)) w' ∧ ι' s.next = ⟨w.heap.size, 0, 0⟩ := by
  have hlen : cs.length ≤ c.size := by have := hc.1; simp at this; omega
  obtain ⟨h5, h6⟩ := hW.push (.cells cs ro) ⟨w.heap.size, 0, 0⟩ h2 h3 h4 (by rw [hw]; simp) (fun b hb => by rw [hw, Array.getElem?_push, if_neg (by omega)]) (Nat.le_refl _)
    (fun k => .inr ⟨c, ty, fz, by rw [hw]; simp, Nat.zero_le _, by simpa using hlen, by simpa using hc.later k, by simpa using h1, fun e => ⟨hro e, hW.hB⟩⟩)
  exact ⟨_, h5, h6, by simp⟩

theorem new_ptr {ι' : Nat → Loc} {cs : List AV} {ro : Bool} {w' : World} (hi : ι' s.next = ⟨w.heap.size, 0, 0⟩) : VR ι' (s.push (.cells cs ro)) w' (.ptr s.next 0 cs.length) (.pointer (some ⟨w.heap.size, 0, none⟩)) :=
  .ptr (by simp [Store.push]) (by simp [Store.push, AObj.size]) (fun _ => by rw [hi]; exact ⟨Nat.le_refl _, rfl⟩)

theorem new_sl {ι' : Nat → Loc} {cs : List AV} {ro : Bool} {w' : World} {c : Array Value} {ty : TypeId} {fz : Nat × Nat} {n es ep cap : Nat} (hi : ι' s.next = ⟨w.heap.size, 0, 0⟩) (hw : w'.heap = w.heap.push (.cells c ty fz)) (hep : ep = cs.length) (hn : n ≤ cap) (hcap : cap * es ≤ c.size) (hfull : cs.length ≤ cap * es) :
    VR ι' (s.push (.cells cs ro)) w' (.sl s.next 0 n es ep) (.slice (some ⟨w.heap.size, 0, none⟩) n cap) := by
  refine .sl (by simp [Store.push]) (by simp [Store.push, AObj.size, hep]) (fun _ => ⟨by rw [hi]; exact Nat.le_refl _, fun _ => ⟨by simp [hi], by rw [hw]; simp, ?_⟩⟩) hn (by omega)
  have : bsz w' w.heap.size = c.size := by unfold bsz; rw [hw]; simp
  simp only [this]; omega

theorem putAll_length : ∀ (cs xs : List AV) (off : Nat), (putAll xs off cs).length = xs.length
  | [], xs, off => rfl
  | c :: cs, xs, off => by rw [putAll, putAll_length cs]; simp

def putAllV (xs : List Value) (off : Nat) : List Value → List Value
  | [] => xs
  | c :: cs => putAllV (xs.set off c) (off + 1) cs

theorem VRs.putAll : ∀ {cs : List AV} {ys : List Value} {xs : List AV} {zs : List Value} (off : Nat), VRs ι s w xs zs → VRs ι s w cs ys → VRs ι s w (Sim.putAll xs off cs) (putAllV zs off ys)
  | [], [], xs, zs, off, h, _ => h
  | [], y :: ys, _, _, _, _, k => by have := k.1; simp at this
  | c :: cs, [], _, _, _, _, k => by have := k.1; simp at this
  | c :: cs, y :: ys, xs, zs, off, h, k => VRs.putAll (off + 1) (h.set off (k.2 0 c y rfl rfl)) ⟨by have := k.1; simpa using this, fun i a b ha hb => k.2 (i + 1) a b (by simpa using ha) (by simpa using hb)⟩

theorem three_at {β : Type} (a b c : List β) (i : Nat) : (a ++ b ++ c)[i]? = if i < a.length then a[i]? else if i - a.length < b.length then b[i - a.length]? else c[i - a.length - b.length]? := by
  rw [List.append_assoc]
  by_cases h : i < a.length
  · rw [List.getElem?_append_left h, if_pos h]
  · rw [List.getElem?_append_right (by omega), if_neg h]
    by_cases h2 : i - a.length < b.length
    · rw [List.getElem?_append_left h2, if_pos h2]
    · rw [List.getElem?_append_right (by omega), if_neg h2]

theorem putAllV_at : ∀ (ys zs : List Value) (off : Nat), off + ys.length ≤ zs.length → ∀ i : Nat, (putAllV zs off ys)[i]? = if i < off then zs[i]? else if i - off < ys.length then ys[i - off]? else zs[i]?
  | [], zs, off, _, i => by simp [putAllV]
  | y :: ys, zs, off, h, i => by
    simp only [List.length_cons] at h
    rw [putAllV, putAllV_at ys _ _ (by simp; omega) i, List.getElem?_set]
    by_cases h1 : i < off
    · rw [if_pos (by omega), if_neg (by omega), if_pos h1]
    · rw [if_neg h1]
      by_cases h2 : i = off
      · subst h2
        rw [if_pos (by omega), if_pos rfl, if_pos (by omega), if_pos (by simp), Nat.sub_self]
        rfl
      · rw [if_neg (by omega)]
        by_cases h3 : i - (off + 1) < ys.length
        · rw [if_pos h3, if_pos (by simp; omega), show i - off = (i - (off + 1)) + 1 by omega, List.getElem?_cons_succ]
        · rw [if_neg h3, if_neg (by omega), if_neg (by simp; omega)]

theorem upd_self (l : Nat) : (fun j => if j = l then ι l else ι j) = ι := by funext j; split <;> simp_all

theorem setRow_other (w : World) (g : Nat) (c : Array Value) (b : Nat) (hb : b ≠ g) : (w.setRow g c).heap[b]? = w.heap[b]? := by
  simp only [World.setRow, Array.getElem?_modify]; rw [if_neg (fun e => hb e.symm)]

/-- What stands in a row behind cells were written. -/
theorem written_at {c c' : Array Value} {ys : List Value} {base n o : Nat} (hc' : c' = (c.toList.take (base + o) ++ ys ++ c.toList.drop (base + o + ys.length)).toArray) (hle : o + ys.length ≤ n) (hn : base + n ≤ c.size) :
    (c'.toList.drop base).take n = putAllV ((c.toList.drop base).take n) o ys := by
  apply List.ext_getElem?
  intro i
  have la : (c.toList.take (base + o)).length = base + o := by simp; omega
  have lb : o + ys.length ≤ ((c.toList.drop base).take n).length := by simp; omega
  rw [putAllV_at _ _ _ lb, hc', List.getElem?_take, List.getElem?_take]
  by_cases hi : i < n
  · rw [if_pos hi, if_pos hi, List.getElem?_drop, List.getElem?_drop]
    show (List.take (base + o) c.toList ++ ys ++ List.drop (base + o + ys.length) c.toList)[base + i]? = _
    rw [three_at, la]
    by_cases i1 : i < o
    · rw [if_pos (by omega), if_pos i1, List.getElem?_take, if_pos (by omega)]
    · rw [if_neg (by omega), if_neg i1, show base + i - (base + o) = i - o by omega]
      by_cases i2 : i - o < ys.length
      · rw [if_pos i2, if_pos i2]
      · rw [if_neg i2, if_neg i2, List.getElem?_drop]
        congr 1; omega
  · rw [if_neg hi, if_neg hi]
    split
    · rfl
    · rw [if_neg (by omega)]

theorem putAll_at : ∀ (cs xs : List AV) (off : Nat), off + cs.length ≤ xs.length → ∀ i : Nat, (putAll xs off cs)[i]? = if i < off then xs[i]? else if i - off < cs.length then cs[i - off]? else xs[i]?
  | [], zs, off, _, i => by simp [putAll]
  | y :: ys, zs, off, h, i => by
    simp only [List.length_cons] at h
    rw [putAll, putAll_at ys _ _ (by simp; omega) i, List.getElem?_set]
    by_cases h1 : i < off
    · rw [if_pos (by omega), if_neg (by omega), if_pos h1]
    · rw [if_neg h1]
      by_cases h2 : i = off
      · subst h2
        rw [if_pos (by omega), if_pos rfl, if_pos (by omega), if_pos (by simp), Nat.sub_self]
        rfl
      · rw [if_neg (by omega)]
        by_cases h3 : i - (off + 1) < ys.length
        · rw [if_pos h3, if_pos (by simp; omega), show i - off = (i - (off + 1)) + 1 by omega, List.getElem?_cons_succ]
        · rw [if_neg h3, if_neg (by omega), if_neg (by simp; omega)]

theorem drop_putAll (xs cs : List AV) (sh off : Nat) (hsh : sh ≤ off) (h : off + cs.length ≤ xs.length) : (putAll xs off cs).drop sh = putAll (xs.drop sh) (off - sh) cs := by
  apply List.ext_getElem?
  intro i
  rw [List.getElem?_drop, putAll_at _ _ _ h, putAll_at _ _ _ (by simp; omega), List.getElem?_drop]
  by_cases h1 : i < off - sh
  · rw [if_pos (by omega), if_pos h1]
  · rw [if_neg (by omega), if_neg h1, show sh + i - off = i - (off - sh) by omega]

theorem mem_putAllV : ∀ (ys zs : List Value) (off : Nat) (y : Value), y ∈ putAllV zs off ys → y ∈ ys ∨ y ∈ zs
  | [], zs, off, y, h => .inr h
  | c :: cs, zs, off, y, h => by
    rcases mem_putAllV cs _ _ y h with h | h
    · exact .inl (by simp [h])
    · rcases List.mem_or_eq_of_mem_set h with h | h
      · exact .inr h
      · exact .inl (by simp [h])

/-- Cells of a row that may be written are written. -/
theorem set_cells (hW : WR B w0 ι s w) {l : Nat} {xs cs : List AV} {ys : List Value} (hl : l < s.next) (hg : s.get l = .cells xs false) (off : Nat) (hsh : (ι l).sh ≤ off) (hoff : off + cs.length ≤ xs.length) (hcs : VRs ι s w cs ys) (hone : ∀ y ∈ ys, y.oneCell' = true) :
    ∃ w', (storeCells ⟨(ι l).b, (ι l).o + (off - (ι l).sh), none⟩ ys).run P w = .ok () w' ∧ WR B w0 ι (s.set l (.cells (putAll xs off cs) false)) w' ∧ Later ι s w ι (s.set l (.cells (putAll xs off cs) false)) w' := by
  obtain ⟨c, ty, fz, h1, h0, h2, h3, h5, h4⟩ := cells_of hW hl hg (.inr rfl)
  obtain ⟨rfl, hB⟩ := h4 rfl
  have hlen := hcs.1
  have hrun := run_storeCells_at P (ι l).b ((ι l).o + (off - (ι l).sh)) ty ys 0 c w h1 (by omega) hone
  refine ⟨_, hrun, ?_⟩
  simp only [Nat.add_zero]
  generalize hc' : (c.toList.take ((ι l).o + (off - (ι l).sh)) ++ ys ++ c.toList.drop ((ι l).o + (off - (ι l).sh) + ys.length)).toArray = c'
  have hsz : c'.size = c.size := by rw [← hc']; simp; omega
  have hh := setRow_heap w (ι l).b c c' ty (0, 0) h1
  have hwr : (s.get l).wr = true := by rw [hg]; rfl
  have hput := VRs.putAll (off - (ι l).sh) h3 hcs
  rw [← drop_putAll xs cs (ι l).sh off hsh hoff] at hput
  have e := written_at (n := xs.length - (ι l).sh) hc'.symm (by omega) h2
  have := hW.update hl hwr hB (.cells (putAll xs off cs) false) (ι l) (w' := w.setRow (ι l).b c') (by rw [hg]; simp [AObj.size, putAll_length]) (fun _ => rfl) rfl rfl rfl (by simp [World.setRow]) (fun b _ hb => setRow_other w _ c' b hb)
    (by unfold bsz; rw [hh, h1]; exact hsz) (.inl rfl) (fun k => .inr ⟨c', ty, (0, 0), hh, by rw [putAll_length]; exact h0, by rw [putAll_length, hsz]; exact h2, ?_, ?_, fun _ => ⟨rfl, hB⟩⟩)
  · rw [upd_self] at this; exact this
  · rw [putAll_length, e]
    exact hput.later k
  · rw [putAll_length, e]
    intro y hy
    rcases mem_putAllV _ _ _ y hy with hy | hy
    · exact hone y hy
    · exact h5 y hy
end
end Go.Proofs.Ytkfdgegmahbkiaa.Sim
namespace Go.Proofs.Ytkfdgegmahbkiaa.Sim
open Go.RowKit (Below)

theorem growBy_le (need : Nat) (hneed : 256 ≤ need) : ∀ (k c : Nat), c ≤ 2 * need → Builtin.growBy need k c ≤ 2 * need
  | 0, c, h => h
  | k + 1, c, h => by
    unfold Builtin.growBy
    split
    · exact h
    · exact growBy_le need hneed k _ (by omega)

theorem nextslicecap_le (need cap : Nat) (h : cap < need) : Builtin.nextslicecap need cap ≤ 2 * need := by
  unfold Builtin.nextslicecap
  split
  · omega
  · split
    · omega
    · exact growBy_le need (by omega) 4 cap (by omega)

section
variable {P : Program} {B : Nat} {w0 : World} {ι : Nat → Loc} {s : Store} {w : World} {α : Type} {r : α}

/-- The cells that are appended or copied. -/
theorem cellsOf_sound {es : Nat} {y : AV} {y' : Value} {f : Nat → List AV → Option α} (h : aCellsOf es y s f = some r) (hy : VR ι s w y y') (hW : WR B w0 ι s w) :
    ∃ m new ys, f m new = some r ∧ (∀ w1, (Builtin.lenOf y').run P w1 = .ok m w1) ∧ new.length = m * es ∧ VRs ι s w new ys ∧ (∀ z ∈ ys, z.oneCell' = true) ∧
      ∀ m', m' ≤ m → ∀ w1 : World, (∀ b, b < w.heap.size → w1.heap[b]? = w.heap[b]?) → (Builtin.firstCells es m' y').run P w1 = .ok (ys.take (m' * es)).toArray w1 := by
  unfold aCellsOf at h
  split at h
  · cases hy
    exact ⟨0, [], [], h, fun _ => rfl, by simp, VRs.nil _ _ _, fun z hz => by simp at hz, fun m' hm w1 _ => by simp [Builtin.firstCells]⟩
  · rename_i b
    cases hy
    split at h
    · rename_i he
      subst he
      have hys : VRs ι s w (b.data.toList.map fun c => AV.int .u8 c.toNat) (b.data.toList.map fun c => Value.int .u8 c.toNat) := by
        refine ⟨by simp, fun i x y hx hy => ?_⟩
        rw [List.getElem?_map] at hx hy
        cases hd : b.data.toList[i]? with
        | none => rw [hd] at hx; cases hx
        | some c =>
          rw [hd] at hx hy
          simp only [Option.map_some, Option.some.injEq] at hx hy
          subst hx; subst hy; exact .int _ _
      refine ⟨_, _, _, h, fun _ => rfl, by simp, hys, fun z hz => ?_, fun m' hm w1 _ => ?_⟩
      · obtain ⟨c, _, rfl⟩ := List.mem_map.1 hz; rfl
      · simp only [Builtin.firstCells, Sem.run_pure, Nat.mul_one]
        congr 1
        apply Array.ext'
        have hmin : min m' b.data.size = m' := by have : b.size = b.data.size := rfl; omega
        simp [ByteArray.data_extract]
    · cases h
  · rename_i l off n es' ep
    split at h
    · rename_i he
      subst he
      obtain ⟨xs, ro, hg, hep, h⟩ := row_of h
      cases hy with
      | sl hl he' ha hc =>
        split at h
        · rename_i hn
          obtain ⟨hsh, hadr0⟩ := ha (by rw [hg]; show _ + 1 = _ + 1; omega)
          obtain ⟨ys, h1, h2, h4, h3⟩ := cells_at hW hl hg off (n * es') hn hsh
          refine ⟨_, _, ys, h, fun _ => rfl, by rw [h2.1, h1], h2, h4, fun m' hm w1 hb => ?_⟩
          have hle : m' * es' ≤ n * es' := Nat.mul_le_mul_right _ hm
          have hlen : (ys.take (m' * es')).length = m' * es' := by rw [List.length_take, h1]; omega
          simp only [Builtin.firstCells]
          by_cases hm0 : m' = 0
          · subst hm0
            simp [loadCells, loadCellsFrom]
          obtain ⟨hadr, hab, _⟩ := hadr0 (by omega)
          have hlt : (ι l).b < w.heap.size := by rw [hadr] at hab; exact hab
          rw [hadr]
          have key := run_loadCells_list (P := P) w1 ⟨(ι l).b, (ι l).o + (off - (ι l).sh), none⟩ (ys.take (m' * es')) (fun j v hj => ?_)
          · rw [hlen] at key; exact key
          rw [List.getElem?_take] at hj
          split at hj
          · have := h3 j v hj
            rw [add_mk] at this ⊢
            simp only [World.cell?] at this ⊢
            rw [hb _ hlt]; exact this
          · cases hj
        · cases h
    · cases h
  · cases h

/-- What append asks of a type. -/
structure ElemOk (P : Program) (e : TypeId) (i : TypeInfo) (z : Value) : Prop where
  info : P.info? e = some i
  zero : i.zero = some z
  size : z.cells.size = i.size
  one : ∀ y ∈ z.cells.toList, y.oneCell' = true

theorem zeroCells_size (z : Array Value) (n : Nat) : (Builtin.zeroCells z n).size = n * z.size := by simp [Builtin.zeroCells]

/-- A row grows within its block. -/
theorem grow_in (hW : WR B w0 ι s w) {l : Nat} {xs new : List AV} {ys : List Value} (hl : l < s.next) (hg : s.get l = .cells xs false) (hsh : (ι l).sh ≤ xs.length) (hnew : VRs ι s w new ys) (hone : ∀ y ∈ ys, y.oneCell' = true) (hpos : 0 < new.length)
    (hroom : (ι l).o + (xs.length - (ι l).sh) + new.length ≤ bsz w (ι l).b) :
    ∃ w', (storeCells ⟨(ι l).b, (ι l).o + (xs.length - (ι l).sh), none⟩ ys).run P w = .ok () w' ∧ WR B w0 ι (s.set l (.cells (xs ++ new) false)) w' ∧ Later ι s w ι (s.set l (.cells (xs ++ new) false)) w' := by
  obtain ⟨c, ty, fz, h1, h0, h2, h3, h5, h4⟩ := cells_of hW hl hg (.inr rfl)
  obtain ⟨rfl, hB⟩ := h4 rfl
  have hlen := hnew.1
  have hbs : bsz w (ι l).b = c.size := by unfold bsz; rw [h1]
  rw [hbs] at hroom
  have hrun := run_storeCells_at P (ι l).b ((ι l).o + (xs.length - (ι l).sh)) ty ys 0 c w h1 (by omega) hone
  refine ⟨_, hrun, ?_⟩
  simp only [Nat.add_zero]
  generalize hc' : (c.toList.take ((ι l).o + (xs.length - (ι l).sh)) ++ ys ++ c.toList.drop ((ι l).o + (xs.length - (ι l).sh) + ys.length)).toArray = c'
  have hsz : c'.size = c.size := by rw [← hc']; simp; omega
  have hh := setRow_heap w (ι l).b c c' ty (0, 0) h1
  have hwr : (s.get l).wr = true := by rw [hg]; rfl
  have e : (c'.toList.drop (ι l).o).take ((xs ++ new).length - (ι l).sh) = (c.toList.drop (ι l).o).take (xs.length - (ι l).sh) ++ ys := by
    rw [written_at (n := (xs ++ new).length - (ι l).sh) hc'.symm (by simp; omega) (by simp; omega)]
    apply List.ext_getElem?
    intro i
    rw [putAllV_at _ _ _ (by simp; omega), List.getElem?_take]
    by_cases h6 : i < xs.length - (ι l).sh
    · rw [if_pos h6, if_pos (by simp; omega), List.getElem?_append_left (by simp; omega), List.getElem?_take, if_pos h6]
    · rw [if_neg h6, List.getElem?_append_right (by simp; omega)]
      have e2 : i - ((c.toList.drop (ι l).o).take (xs.length - (ι l).sh)).length = i - (xs.length - (ι l).sh) := by simp; omega
      rw [e2]
      by_cases h7 : i - (xs.length - (ι l).sh) < ys.length
      · rw [if_pos h7]
      · rw [if_neg h7, if_neg (by simp; omega), List.getElem?_eq_none (by omega)]
  have := hW.update hl hwr hB (.cells (xs ++ new) false) (ι l) (w' := w.setRow (ι l).b c') (by rw [hg]; simp [AObj.size]) (fun _ => rfl) rfl rfl rfl (by simp [World.setRow]) (fun b _ hb => setRow_other w _ c' b hb)
    (by unfold bsz; rw [hh, h1]; exact hsz) (.inl rfl) (fun k => .inr ⟨c', ty, (0, 0), hh, by simp; omega, by rw [hsz]; simp; omega, ?_, ?_, fun _ => ⟨rfl, hB⟩⟩)
  · rw [upd_self] at this; exact this
  · rw [e, List.drop_append_of_le_length hsh]
    exact (h3.later k).append (hnew.later k)
  · rw [e]
    intro y hy
    rcases List.mem_append.1 hy with hy | hy
    · exact h5 y hy
    · exact hone y hy

/-- A row goes on in a new block, from the place 'off' on. -/
theorem grow_out (hW : WR B w0 ι s w) {l off : Nat} {xs new : List AV} {os ys : List Value} (hl : l < s.next) (hg : s.get l = .cells xs false) (hoff : off ≤ xs.length) (hold : VRs ι s w (xs.drop off) os) (hold1 : ∀ y ∈ os, y.oneCell' = true) (hnew : VRs ι s w new ys) (hone : ∀ y ∈ ys, y.oneCell' = true) (hpos : 0 < new.length)
    (rest : List Value) (ty : TypeId) {w' : World} (hw : w'.heap = w.heap.push (.cells (os ++ ys ++ rest).toArray ty)) (h2 : w'.os = w.os) (h3 : w'.tape = w.tape) (h4 : w'.output = w.output) :
    ∃ ι', WR B w0 ι' (s.set l (.cells (xs ++ new) false)) w' ∧ Later ι s w ι' (s.set l (.cells (xs ++ new) false)) w' ∧ ι' l = ⟨w.heap.size, 0, off⟩ := by
  have hwr : (s.get l).wr = true := by rw [hg]; rfl
  obtain ⟨_, _, _, h1, _, _, _, _, h5⟩ := cells_of hW hl hg (.inr rfl)
  have hB := (h5 rfl).2
  have hl1 := hold.1
  have hl2 := hnew.1
  rw [List.length_drop] at hl1
  have e : (((os ++ ys ++ rest).toArray).toList.drop 0).take ((xs ++ new).length - off) = os ++ ys := by
    rw [List.drop_zero]
    show (os ++ ys ++ rest).take _ = _
    rw [List.take_append_of_le_length (by simp; omega), List.take_of_length_le (by simp; omega)]
  have hlt := hW.lt hl (by rw [hg]; simp [AObj.live])
  have := hW.update hl hwr hB (.cells (xs ++ new) false) ⟨w.heap.size, 0, off⟩ (w' := w') (by rw [hg]; simp [AObj.size]) (fun q => by rw [hg] at q; simp only [AObj.size, List.length_append] at q; omega) h2 h3 h4 (by rw [hw]; simp)
    (fun b hb _ => by rw [hw, Array.getElem?_push, if_neg (by omega)]) (bsz_same (by rw [hw, Array.getElem?_push, if_neg (by omega)])) (.inr (Nat.le_refl _))
    (fun k => .inr ⟨(os ++ ys ++ rest).toArray, ty, (0, 0), by rw [hw]; simp, by simp; omega, by simp; omega, ?_, ?_, fun _ => ⟨rfl, hW.hB⟩⟩)
  · exact ⟨_, this.1, this.2, by simp⟩
  · rw [e, List.drop_append_of_le_length hoff]
    exact (hold.later k).append (hnew.later k)
  · rw [e]
    intro y hy
    rcases List.mem_append.1 hy with hy | hy
    · exact hold1 y hy
    · exact hone y hy
end
end Go.Proofs.Ytkfdgegmahbkiaa.Sim
namespace Go.Proofs.Ytkfdgegmahbkiaa.Sim
open Go.RowKit (Below)
section
variable {P : Program} {B : Nat} {w0 : World} {ι : Nat → Loc} {s : Store} {w : World} {α : Type} {r : α}

theorem append_fit_none {t u e ty : TypeId} {i : TypeInfo} {z : Value} (ht : P.underlying t = some (.slice e)) (hu : (∃ e', P.underlying u = some (.slice e')) ∨ P.underlying u = some .string) (he : ElemOk P e i z)
    (n c m : Nat) (y' : Value) (new : Array Value) (hlen : ∀ w1, (Builtin.lenOf y').run P w1 = .ok m w1) (hfit : n + m ≤ c) (hnew : (Builtin.firstCells i.size m y').run P w = .ok new w) :
    (Builtin.append_ #[t, u] ty #[.slice none n c, y']).run P w = .ok (.slice none (n + m) c) w := by
  rcases hu with ⟨e', hu⟩ | hu <;>
  simp [Builtin.append_, run_underlying ht, run_underlying hu, sizeOf, Go.run_typeInfo _ he.info, hlen, hfit, hnew]

theorem append_fit {t u e ty : TypeId} {i : TypeInfo} {z : Value} (ht : P.underlying t = some (.slice e)) (hu : (∃ e', P.underlying u = some (.slice e')) ∨ P.underlying u = some .string) (he : ElemOk P e i z)
    (a : Addr) (n c m : Nat) (y' : Value) (new : Array Value) (w' : World) (hlen : ∀ w1, (Builtin.lenOf y').run P w1 = .ok m w1) (hfit : n + m ≤ c) (hnew : (Builtin.firstCells i.size m y').run P w = .ok new w)
    (hst : (storeCells (a.add (n * i.size)) new.toList).run P w = .ok () w') :
    (Builtin.append_ #[t, u] ty #[.slice (some a) n c, y']).run P w = .ok (.slice (some a) (n + m) c) w' := by
  rcases hu with ⟨e', hu⟩ | hu <;>
  simp [Builtin.append_, run_underlying ht, run_underlying hu, sizeOf, Go.run_typeInfo _ he.info, hlen, hfit, hnew, hst]

theorem append_out {t u e ty : TypeId} {i : TypeInfo} {z : Value} (ht : P.underlying t = some (.slice e)) (hu : (∃ e', P.underlying u = some (.slice e')) ∨ P.underlying u = some .string) (he : ElemOk P e i z)
    (base : Option Addr) (n c m : Nat) (y' : Value) (old new : Array Value) (hlen : ∀ w1, (Builtin.lenOf y').run P w1 = .ok m w1) (hfit : ¬ n + m ≤ c) (hb : (n + m) * i.bytes ≤ 140737488355328) (hb0 : 0 < i.bytes)
    (hold : (Builtin.firstCells i.size n (.slice base n c)).run P w.drew = .ok old w.drew) (hnew : (Builtin.firstCells i.size m y').run P w.drew = .ok new w.drew) :
    ∃ cap, n + m ≤ cap ∧ (Builtin.append_ #[t, u] ty #[.slice base n c, y']).run P w =
      .ok (.slice (some ⟨w.heap.size, 0, none⟩) (n + m) cap) (w.drew.alloc (.cells (old ++ new ++ Builtin.zeroCells z.cells (cap - (n + m))) e)) := by
  refine ⟨(Question.appendCap (n + m) c e).cut (w.tape w.drawn (.appendCap (n + m) c e)), by simp [Question.cut], ?_⟩
  have h1 : ¬ (9223372036854775807 < (n : Int) + (m : Int) ∧ i.bytes = 0) := by omega
  have h2 : ¬ 281474976710656 < Builtin.nextslicecap (n + m) c * i.bytes := by
    have := Nat.mul_le_mul_right i.bytes (nextslicecap_le (n + m) c (by omega))
    rw [Nat.mul_assoc] at this
    omega
  have h3 : (Question.appendCap (n + m) c e).forced = false := rfl
  rcases hu with ⟨e', hu⟩ | hu <;>
  simp [Builtin.append_, run_underlying ht, run_underlying hu, sizeOf, Go.run_typeInfo _ he.info, hlen, hfit, hold, hnew, h1, h2, h3, zeroValue, he.zero, newRow]

theorem append_sound {t u e ty : TypeId} {i : TypeInfo} {z : Value} {x y : AV} {x' y' : Value} {κ : AV → Store → Option α} (ht : P.underlying t = some (.slice e)) (hu : (∃ e', P.underlying u = some (.slice e')) ∨ P.underlying u = some .string) (he : ElemOk P e i z)
    (h : aAppend i.size i.bytes x y s κ = some r) (hx : VR ι s w x x') (hy : VR ι s w y y') (hW : WR B w0 ι s w) :
    ∃ v s' v' w' ι', κ v s' = some r ∧ (Builtin.append_ #[t, u] ty #[x', y']).run P w = .ok v' w' ∧ VR ι' s' w' v v' ∧ WR B w0 ι' s' w' ∧ Later ι s w ι' s' w' := by
  obtain ⟨m, new, ys, h', hlen, hnl, hnew, hone, hfirst⟩ := cellsOf_sound (P := P) h hy hW
  clear h
  have h := h'
  clear h'
  have hdrew : ∀ b, b < w.heap.size → w.drew.heap[b]? = w.heap[b]? := fun _ _ => rfl
  have hf0 := hfirst m (Nat.le_refl _) w (fun _ _ => rfl)
  have hf1 := hfirst m (Nat.le_refl _) w.drew hdrew
  have hys : ys.take (m * i.size) = ys := List.take_of_length_le (by rw [← hnew.1, hnl]; exact Nat.le_refl _)
  rw [hys] at hf0 hf1
  cases x with
  | nilsl =>
    cases hx
    simp only at h
    split at h
    · rename_i hm
      subst hm
      exact ⟨_, _, _, w, ι, h, append_fit_none ht hu he 0 0 0 y' _ hlen (Nat.le_refl _) hf0, .nilsl, hW, Later.refl _ _ _⟩
    · rename_i hm
      split at h
      · rename_i hb
        obtain ⟨cap, hcap, hrun⟩ := append_out (ty := ty) ht hu he none 0 0 m y' #[] ys.toArray hlen (by omega) (by rw [Nat.zero_add]; exact hb.1) hb.2 (by simp [Builtin.firstCells]) hf1
        rw [Nat.zero_add] at hcap hrun
        generalize hc : (#[] ++ ys.toArray ++ Builtin.zeroCells z.cells (cap - m)) = c at hrun
        have hcs : c.toList.take new.length = ys := by
          rw [← hc, hnew.1]; simp
        have hsz : c.size = cap * i.size := by
          rw [← hc]
          simp only [Array.size_append, zeroCells_size, he.size, List.size_toArray, ← hnew.1, hnl, List.size_toArray, List.length_nil]
          rw [Nat.zero_add, ← Nat.add_mul]; congr 1; omega
        obtain ⟨ι', h5, h6, h7⟩ := push_cells hW (cs := new) (c := c) e (0, 0) false (w' := w.drew.alloc (.cells c e)) rfl rfl rfl rfl (by rw [hcs]; exact hnew) (by rw [hcs]; exact hone) (fun _ => rfl)
        exact ⟨_, _, _, _, ι', h, hrun, new_sl h7 rfl hnl.symm (by omega) (by rw [hsz]; exact Nat.le_refl _) (by rw [hnl]; exact Nat.mul_le_mul_right _ hcap), h5, h6⟩
      · cases h
  | sl l off n es' ep =>
    simp only at h
    split at h
    · rename_i hes
      subst hes
      obtain ⟨xs, hg, hep, hk⟩ := own_of h
      clear h
      have h := hk
      clear hk
      cases hx with
      | sl hl hle ha hc hr =>
        rename_i a c
        obtain ⟨hsh, hadr0⟩ := ha (by rw [hg]; show _ + 1 = _ + 1; omega)
        split at h
        · rename_i hm
          subst hm
          have hy0 : ys = [] := List.eq_nil_of_length_eq_zero (by rw [← hnew.1, hnl, Nat.zero_mul])
          subst hy0
          exact ⟨_, _, _, w, ι, h, append_fit ht hu he a n c 0 y' _ w hlen (by omega) hf0 (by simp [storeCells]), .sl hl hle ha (by omega) hr, hW, Later.refl _ _ _⟩
        · rename_i hm
          split at h
          · rename_i hcond
            obtain ⟨hend, hb, hes0, hb0⟩ := hcond
            have hpos : 0 < new.length := by rw [hnl]; exact Nat.mul_pos (by omega) hes0
            by_cases hfit : n + m ≤ c
            · obtain ⟨hadr, hblk, hroom⟩ := hadr0 (by omega)
              have hcap : (n + m) * i.size ≤ c * i.size := Nat.mul_le_mul_right _ hfit
              rw [Nat.add_mul] at hcap
              have hroom' : (ι l).o + (xs.length - (ι l).sh) + new.length ≤ bsz w (ι l).b := by
                rw [hadr] at hroom
                rw [hnl]
                simp only at hroom
                omega
              obtain ⟨w', hst, hW', hL'⟩ := grow_in (P := P) hW hl hg (by omega) hnew hone hpos hroom'
              have hst' : (storeCells (a.add (n * i.size)) ys.toArray.toList).run P w = .ok () w' := by
                rw [hadr, add_mk, show (ι l).o + (off - (ι l).sh) + n * i.size = (ι l).o + (xs.length - (ι l).sh) by omega]; exact hst
              refine ⟨_, _, _, w', ι, h, append_fit ht hu he a n c m y' _ w' hlen hfit hf0 hst', ?_, hW', hL'⟩
              have hsz : ((s.set l (.cells (xs ++ new) false)).get l).size = ep + m * i.size + 1 := by simp [Store.set, AObj.size, hep, hnl]
              exact .sl hl (by rw [hsz]; exact Nat.le_refl _) (fun _ => ⟨hsh, fun _ => ⟨hadr, Nat.lt_of_lt_of_le hblk hL'.hs, by rw [hL'.bs _ hblk]; exact hroom⟩⟩) hfit (by omega)
            · obtain ⟨os, ho1, ho2, ho4, ho3⟩ := cells_at hW hl hg off (n * i.size) (by omega) hsh
              have hold : (Builtin.firstCells i.size n (.slice (some a) n c)).run P w.drew = .ok os.toArray w.drew := by
                simp only [Builtin.firstCells]
                by_cases hn0 : n = 0
                · subst hn0
                  have : os = [] := List.eq_nil_of_length_eq_zero (by rw [ho1, Nat.zero_mul])
                  subst this
                  simp [loadCells, loadCellsFrom]
                obtain ⟨hadr, _, _⟩ := hadr0 (by omega)
                rw [hadr, ← ho1]
                exact run_loadCells_list (P := P) w.drew _ os (fun j v hj => ho3 j v hj)
              obtain ⟨cap, hcap, hrun⟩ := append_out (ty := ty) ht hu he (some a) n c m y' os.toArray ys.toArray hlen hfit hb hb0 hold hf1
              have hdt : (xs.drop off).take (n * i.size) = xs.drop off := List.take_of_length_le (by rw [List.length_drop]; omega)
              rw [hdt] at ho2
              obtain ⟨ι', h5, h6, h7⟩ := grow_out hW hl hg (off := off) (by omega) ho2 ho4 hnew hone hpos (Builtin.zeroCells z.cells (cap - (n + m))).toList e (w' := w.drew.alloc (.cells (os.toArray ++ ys.toArray ++ Builtin.zeroCells z.cells (cap - (n + m))) e)) (by show w.heap.push (.cells _ e) = w.heap.push (.cells _ e); congr 2; simp) rfl rfl rfl
              refine ⟨_, _, _, _, ι', h, hrun, ?_, h5, h6⟩
              have hsz : ((s.set l (.cells (xs ++ new) false)).get l).size = ep + m * i.size + 1 := by simp [Store.set, AObj.size, hep, hnl]
              refine .sl hl (by rw [hsz]; exact Nat.le_refl _) (fun _ => ⟨by rw [h7]; exact Nat.le_refl _, fun _ => ⟨by rw [h7]; simp, by show w.heap.size < (w.heap.push _).size; simp, ?_⟩⟩) hcap (by
                have hcap2 : (n + m) * i.size ≤ cap * i.size := Nat.mul_le_mul_right _ hcap
                rw [Nat.add_mul] at hcap2
                omega)
              have hbs : bsz (w.drew.alloc (.cells (os.toArray ++ ys.toArray ++ Builtin.zeroCells z.cells (cap - (n + m))) e)) w.heap.size = cap * i.size := by
                have : (w.drew.alloc (.cells (os.toArray ++ ys.toArray ++ Builtin.zeroCells z.cells (cap - (n + m))) e)).heap[w.heap.size]? = some (.cells (os.toArray ++ ys.toArray ++ Builtin.zeroCells z.cells (cap - (n + m))) e) := by show (w.heap.push _)[w.heap.size]? = _; simp
                unfold bsz
                rw [this]
                simp only [Array.size_append, zeroCells_size, he.size, List.size_toArray, ← hnew.1, hnl, ho1]
                rw [← Nat.add_mul, ← Nat.add_mul]; congr 1; omega
              simp only [hbs]; omega
          · split at h
            · rename_i hin
              obtain ⟨hin, hes0⟩ := hin
              have hcapn : n + m ≤ c := by
                have h1 := hr
                have h2 : (n + m) * i.size ≤ c * i.size := by omega
                exact Nat.le_of_mul_le_mul_right h2 hes0
              obtain ⟨hadr, hblk, hroom⟩ := hadr0 (by omega)
              rw [Nat.add_mul] at hin
              obtain ⟨w', hst, hW', hL'⟩ := set_cells (P := P) hW hl hg (off + n * i.size) (by omega) (by rw [hnl]; omega) hnew hone
              have hst' : (storeCells (a.add (n * i.size)) ys.toArray.toList).run P w = .ok () w' := by
                rw [hadr, add_mk, show (ι l).o + (off - (ι l).sh) + n * i.size = (ι l).o + (off + n * i.size - (ι l).sh) by omega]; exact hst
              exact ⟨_, _, _, w', ι, h, append_fit ht hu he a n c m y' _ w' hlen hcapn hf0 hst', (VR.sl (n := n + m) hl hle ha hcapn hr).later hL', hW', hL'⟩
            · cases h
    · cases h
  | _ => simp at h

theorem copy_sound {t u e ty : TypeId} {c : Nat} {x y : AV} {x' y' : Value} {κ : AV → Store → Option α} (ht : P.underlying t = some (.slice e)) (hc : szOf P e = some c)
    (h : aCopy c x y s κ = some r) (hx : VR ι s w x x') (hy : VR ι s w y y') (hW : WR B w0 ι s w) :
    ∃ v s' v' w' ι', κ v s' = some r ∧ (Builtin.copy_ #[t, u] ty #[x', y']).run P w = .ok v' w' ∧ VR ι' s' w' v v' ∧ WR B w0 ι' s' w' ∧ Later ι s w ι' s' w' := by
  obtain ⟨m, new, ys, h', hlen, hnl, hnew, hone, hfirst⟩ := cellsOf_sound (P := P) h hy hW
  clear h
  have h := h'
  clear h'
  obtain ⟨i, hi, rfl⟩ : ∃ i, P.info? e = some i ∧ i.size = c := by
    unfold szOf at hc
    cases hq : P.info? e with
    | none => rw [hq] at hc; cases hc
    | some i => rw [hq] at hc; exact ⟨i, rfl, by simpa using hc⟩
  cases x with
  | nilsl =>
    cases hx
    have hf := hfirst 0 (Nat.zero_le _) w (fun _ _ => rfl)
    refine ⟨_, _, .int .i64 0, w, ι, h, ?_, .int _ _, hW, Later.refl _ _ _⟩
    simp [Builtin.copy_, run_underlying ht, sizeOf, Go.run_typeInfo _ hi, hlen, hf, goInt]
  | sl l off n es' ep =>
    simp only at h
    split at h
    · rename_i hes
      subst hes
      obtain ⟨xs, hg, hep, hk⟩ := own_of h
      clear h
      have h := hk
      clear hk
      cases hx with
      | sl hl hle ha hcc hr =>
        rename_i a cc
        obtain ⟨hsh, hadr0⟩ := ha (by rw [hg]; show _ + 1 = _ + 1; omega)
        split at h
        · rename_i hcond
          have hmin : min m n ≤ m := Nat.min_le_left _ _
          have hle1 : min m n * i.size ≤ n * i.size := Nat.mul_le_mul_right _ (Nat.min_le_right _ _)
          have hle2 : min m n * i.size ≤ m * i.size := Nat.mul_le_mul_right _ hmin
          have hf := hfirst (min m n) hmin w (fun _ _ => rfl)
          have hs := hnew.take (min m n * i.size)
          have hlt : (new.take (min m n * i.size)).length = min m n * i.size := by rw [List.length_take, hnl]; omega
          obtain ⟨w', hst, hW', hL'⟩ := set_cells (P := P) hW hl hg off hsh (by rw [hlt]; omega) hs (fun z hz => hone z (List.mem_of_mem_take hz))
          refine ⟨_, _, .int .i64 (min m n : Nat), w', ι, h, ?_, .int _ _, hW', hL'⟩
          have hf' : (Builtin.firstCells i.size (Nat.min m n) y').run P w = .ok (ys.take (min m n * i.size)).toArray w := hf
          have hst' : (storeCells a (ys.take (min m n * i.size))).run P w = .ok () w' := by
            by_cases hn0 : n = 0
            · subst hn0
              simp only [Nat.min_zero, Nat.zero_mul, List.take_zero, storeCells, Sem.run_pure] at hst ⊢
              exact hst
            · obtain ⟨hadr, _, _⟩ := hadr0 (by omega)
              rw [hadr]; exact hst
          simp only [Builtin.copy_]
          simp [run_underlying ht, sizeOf, Go.run_typeInfo _ hi, hlen, hf', goInt, hst']
        · cases h
    · cases h
  | _ => simp at h

theorem zeroCells_list (z : Array Value) (n : Nat) : (Builtin.zeroCells z n).toList = (List.replicate n z.toList).flatten := by
  apply List.ext_getElem?
  intro i
  have hlen : (List.replicate n z.toList).flatten.length = n * z.size := by simp
  have hlen2 : (Builtin.zeroCells z n).toList.length = n * z.size := by simp [Builtin.zeroCells]
  by_cases hi : i < n * z.size
  · have hz : 0 < z.size := by
      rcases Nat.eq_zero_or_pos z.size with h | h
      · rw [h, Nat.mul_zero] at hi; omega
      · exact h
    have h1 : (Builtin.zeroCells z n).toList[i]? = z[i % z.size]? := by
      have : i % z.size < z.size := Nat.mod_lt _ hz
      simp [Builtin.zeroCells, hi, this]
    have h2 : (List.replicate n z.toList).flatten[i]? = z.toList[i % z.size]? := by
      clear h1 hlen hlen2
      induction n generalizing i with
      | zero => simp at hi
      | succ n ih =>
        rw [List.replicate_succ, List.flatten_cons]
        by_cases h : i < z.size
        · rw [List.getElem?_append_left (by simpa using h), Nat.mod_eq_of_lt h]
        · rw [List.getElem?_append_right (by simp; omega), Array.length_toList, ih (i - z.size) (by rw [Nat.succ_mul] at hi; omega), Nat.mod_eq_sub_mod (show i ≥ z.size by omega)]
    rw [h1, h2, Array.getElem?_toList]
  · rw [List.getElem?_eq_none (by omega), List.getElem?_eq_none (by omega)]
end
end Go.Proofs.Ytkfdgegmahbkiaa.Sim
