/- The abstract machine and the model: when a value, a row, a store stand for the model's own. Plain lemmas. No condition. -/
import Derived.Test.YtjbgdpfkmcibbaaGreatDoorSimB
import Derived.Laws.Cells
import Derived.Laws.CopyRow
import Derived.Laws.Sem
namespace Go.Proofs.YtjbgdpfkmcibbaaGreatDoor.Sim
open Go.RowKit (Below)

/-- Where a row lies: the block; from the cell 'sh' on it lies from the place 'o' on (what is ahead of 'sh' lies nowhere any more). -/
structure Loc where
  b : Nat
  o : Nat
  sh : Nat

/-- How many cells a block has. -/
def bsz (w : World) (b : Nat) : Nat :=
  match w.heap[b]? with
  | some (.cells c _ _) => c.size
  | _ => 0

/-- An abstract value stands for one of the model: ids lie where ι says, unless stale. -/
inductive VR (ι : Nat → Loc) (s : Store) (w : World) : AV → Value → Prop
  | bool (b : Bool) : VR ι s w (.bool b) (.bool b)
  | int (k : IntKind) (n : Int) : VR ι s w (.int k n) (.int k n)
  | str (x : ByteArray) : VR ι s w (.str x) (.string x)
  | ptr {l off ep : Nat} {a : Addr} (hl : l < s.next) (he : ep + 1 ≤ (s.get l).size) (ha : (s.get l).size = ep + 1 → (ι l).sh ≤ off ∧ a = ⟨(ι l).b, (ι l).o + (off - (ι l).sh), none⟩) : VR ι s w (.ptr l off ep) (.pointer (some a))
  | nilptr : VR ι s w .nilptr (.pointer none)
  | sl {l off n es ep : Nat} {a : Addr} {c : Nat} (hl : l < s.next) (he : ep + 1 ≤ (s.get l).size)
      (ha : (s.get l).size = ep + 1 → (ι l).sh ≤ off ∧ (0 < c → a = ⟨(ι l).b, (ι l).o + (off - (ι l).sh), none⟩ ∧ a.block < w.heap.size ∧ a.off + c * es ≤ bsz w a.block)) (hc : n ≤ c) (hr : ep ≤ off + c * es) : VR ι s w (.sl l off n es ep) (.slice (some a) n c)
  | nilsl : VR ι s w .nilsl (.slice none 0 0)
  | map {l r : Nat} (hl : l < s.next) (he : 1 ≤ (s.get l).size) (ha : (s.get l).size = 1 → r = (ι l).b) : VR ι s w (.map l) (.map (some r))
  | nilmap : VR ι s w .nilmap (.map none)
  | func {f : Nat} {first cap : List AV} {first' cap' : Array Value} (h1 : first.length = first'.size) (h2 : ∀ (i : Nat) x y, first[i]? = some x → first'[i]? = some y → VR ι s w x y)
      (h3 : cap.length = cap'.size) (h4 : ∀ (i : Nat) x y, cap[i]? = some x → cap'[i]? = some y → VR ι s w x y) : VR ι s w (.func f first cap) (.func (.func f) first' cap')
  | nilfunc : VR ι s w .nilfunc .nilFunc
  | iface {t : Nat} {v : AV} {v' : Value} (h : VR ι s w v v') : VR ι s w (.iface t v) (.iface t v')
  | meth {n : String} {v : AV} {v' : Value} {c : Array Value} (h : VR ι s w v v') : VR ι s w (.meth n v) (.func (.method n) #[v'] c)
  | nilif : VR ι s w .nilif .nilIface
  | agg {vs : List AV} {vs' : Array Value} (h1 : vs.length = vs'.size) (h2 : ∀ (i : Nat) x y, vs[i]? = some x → vs'[i]? = some y → VR ι s w x y) (h3 : ∀ y ∈ vs'.toList, y.oneCell' = true) : VR ι s w (.agg vs) (.agg vs')
  | tuple {vs : List AV} {vs' : Array Value} (h1 : vs.length = vs'.size) (h2 : ∀ (i : Nat) x y, vs[i]? = some x → vs'[i]? = some y → VR ι s w x y) : VR ι s w (.tuple vs) (.tuple vs')
  | junk (v : Value) : VR ι s w .junk v

/-- A later state: ids stay where they are, unless their rows have grown. -/
structure Later (ι : Nat → Loc) (s : Store) (w : World) (ι' : Nat → Loc) (s' : Store) (w' : World) : Prop where
  next : s.next ≤ s'.next
  sz : ∀ l, l < s.next → (s.get l).size ≤ (s'.get l).size
  loc : ∀ l, l < s.next → (s'.get l).size = (s.get l).size → ι' l = ι l
  bs : ∀ b, b < w.heap.size → bsz w' b = bsz w b
  hs : w.heap.size ≤ w'.heap.size

theorem Later.refl (ι : Nat → Loc) (s : Store) (w : World) : Later ι s w ι s w := ⟨Nat.le_refl _, fun _ _ => Nat.le_refl _, fun _ _ _ => rfl, fun _ _ => rfl, Nat.le_refl _⟩
theorem Later.trans {ι ι' ι'' : Nat → Loc} {s s' s'' : Store} {w w' w'' : World} (h : Later ι s w ι' s' w') (k : Later ι' s' w' ι'' s'' w'') : Later ι s w ι'' s'' w'' :=
  ⟨Nat.le_trans h.next k.next, fun l hl => Nat.le_trans (h.sz l hl) (k.sz l (Nat.lt_of_lt_of_le hl h.next)), fun l hl e => by
    have h1 := h.sz l hl
    have h2 := k.sz l (Nat.lt_of_lt_of_le hl h.next)
    rw [k.loc l (Nat.lt_of_lt_of_le hl h.next) (by omega), h.loc l hl (by omega)],
   fun b hb => (k.bs b (Nat.lt_of_lt_of_le hb h.hs)).trans (h.bs b hb), Nat.le_trans h.hs k.hs⟩

theorem VR.later {ι ι' : Nat → Loc} {s s' : Store} {w w' : World} {x : AV} {y : Value} (h : VR ι s w x y) (k : Later ι s w ι' s' w') : VR ι' s' w' x y := by
  induction h with
  | bool b => exact .bool b
  | int kk n => exact .int kk n
  | str x => exact .str x
  | ptr hl he ha =>
    have := k.sz _ hl
    refine .ptr (Nat.lt_of_lt_of_le hl k.next) (Nat.le_trans he this) (fun e => ?_)
    obtain ⟨h1, h2⟩ := ha (by omega)
    rw [k.loc _ hl (by omega)]; exact ⟨h1, h2⟩
  | nilptr => exact .nilptr
  | sl hl he ha hc hr =>
    have := k.sz _ hl
    refine .sl (Nat.lt_of_lt_of_le hl k.next) (Nat.le_trans he this) (fun e => ?_) hc hr
    obtain ⟨h0, h4⟩ := ha (by omega)
    rw [k.loc _ hl (by omega)]
    refine ⟨h0, fun hc0 => ?_⟩
    obtain ⟨h1, h2, h3⟩ := h4 hc0
    exact ⟨h1, Nat.lt_of_lt_of_le h2 k.hs, by rw [k.bs _ h2]; exact h3⟩
  | nilsl => exact .nilsl
  | map hl he ha =>
    have := k.sz _ hl
    exact .map (Nat.lt_of_lt_of_le hl k.next) (Nat.le_trans he this) (fun e => by rw [ha (by omega), k.loc _ hl (by omega)])
  | nilmap => exact .nilmap
  | func h1 _ h3 _ ih2 ih4 => exact .func h1 (fun i x y hx hy => ih2 i x y hx hy) h3 (fun i x y hx hy => ih4 i x y hx hy)
  | nilfunc => exact .nilfunc
  | iface _ ih => exact .iface ih
  | meth _ ih => exact .meth ih
  | nilif => exact .nilif
  | agg h1 _ h3 ih => exact .agg h1 (fun i x y hx hy => ih i x y hx hy) h3
  | tuple h1 _ ih => exact .tuple h1 (fun i x y hx hy => ih i x y hx hy)
  | junk v => exact .junk v

/-- Rows of values, pointwise. -/
def VRs (ι : Nat → Loc) (s : Store) (w : World) (xs : List AV) (ys : List Value) : Prop := xs.length = ys.length ∧ ∀ (i : Nat) x y, xs[i]? = some x → ys[i]? = some y → VR ι s w x y
theorem VRs.later {ι ι' : Nat → Loc} {s s' : Store} {w w' : World} {xs : List AV} {ys : List Value} (h : VRs ι s w xs ys) (k : Later ι s w ι' s' w') : VRs ι' s' w' xs ys := ⟨h.1, fun i x y hx hy => (h.2 i x y hx hy).later k⟩
theorem VRs.nil (ι : Nat → Loc) (s : Store) (w : World) : VRs ι s w [] [] := ⟨rfl, fun i x y hx => by simp at hx⟩
theorem VRs.cons {ι : Nat → Loc} {s : Store} {w : World} {x : AV} {y : Value} {xs : List AV} {ys : List Value} (h : VR ι s w x y) (k : VRs ι s w xs ys) : VRs ι s w (x :: xs) (y :: ys) := by
  refine ⟨by simp [k.1], fun i a b ha hb => ?_⟩
  cases i with
  | zero =>
    simp only [List.getElem?_cons_zero, Option.some.injEq] at ha hb
    subst ha; subst hb; exact h
  | succ i => exact k.2 i a b (by simpa using ha) (by simpa using hb)
theorem VRs.append {ι : Nat → Loc} {s : Store} {w : World} {xs xs' : List AV} {ys ys' : List Value} (h : VRs ι s w xs ys) (k : VRs ι s w xs' ys') : VRs ι s w (xs ++ xs') (ys ++ ys') := by
  refine ⟨by simp [h.1, k.1], fun i a b ha hb => ?_⟩
  by_cases hi : i < xs.length
  · rw [List.getElem?_append_left hi] at ha
    rw [List.getElem?_append_left (by rw [← h.1]; exact hi)] at hb
    exact h.2 i a b ha hb
  · rw [List.getElem?_append_right (by omega)] at ha
    rw [List.getElem?_append_right (by rw [← h.1]; omega), ← h.1] at hb
    exact k.2 _ a b ha hb
theorem VRs.take {ι : Nat → Loc} {s : Store} {w : World} {xs : List AV} {ys : List Value} (h : VRs ι s w xs ys) (n : Nat) : VRs ι s w (xs.take n) (ys.take n) := by
  refine ⟨by simp [h.1], fun i a b ha hb => ?_⟩
  rw [List.getElem?_take] at ha hb
  split at ha
  · rw [if_pos (by assumption)] at hb; exact h.2 i a b ha hb
  · cases ha
theorem VRs.drop {ι : Nat → Loc} {s : Store} {w : World} {xs : List AV} {ys : List Value} (h : VRs ι s w xs ys) (n : Nat) : VRs ι s w (xs.drop n) (ys.drop n) := by
  refine ⟨by simp [h.1], fun i a b ha hb => ?_⟩
  rw [List.getElem?_drop] at ha hb
  exact h.2 _ a b ha hb
theorem VRs.get {ι : Nat → Loc} {s : Store} {w : World} {xs : List AV} {ys : List Value} (h : VRs ι s w xs ys) {i : Nat} {x : AV} (hx : xs[i]? = some x) : ∃ y, ys[i]? = some y ∧ VR ι s w x y := by
  have hi := (List.getElem?_eq_some_iff.1 hx).1
  have hi' : i < ys.length := by rw [← h.1]; exact hi
  exact ⟨ys[i], List.getElem?_eq_getElem hi', h.2 i x _ hx (List.getElem?_eq_getElem hi')⟩
theorem VRs.set {ι : Nat → Loc} {s : Store} {w : World} {xs : List AV} {ys : List Value} (h : VRs ι s w xs ys) (i : Nat) {x : AV} {y : Value} (hx : VR ι s w x y) : VRs ι s w (xs.set i x) (ys.set i y) := by
  refine ⟨by simp [h.1], fun j a b ha hb => ?_⟩
  rw [List.getElem?_set] at ha hb
  by_cases e : i = j
  · rw [if_pos e] at ha hb
    have := h.1
    split at ha
    · rw [if_pos (by omega)] at hb
      simp only [Option.some.injEq] at ha hb
      subst ha; subst hb; exact hx
    · cases ha
  · rw [if_neg e] at ha hb; exact h.2 j a b ha hb
theorem VRs.replicate {ι : Nat → Loc} {s : Store} {w : World} {xs : List AV} {ys : List Value} (h : VRs ι s w xs ys) (n : Nat) : VRs ι s w (List.replicate n xs).flatten (List.replicate n ys).flatten := by
  induction n with
  | zero => exact VRs.nil _ _ _
  | succ n ih => rw [List.replicate_succ, List.replicate_succ, List.flatten_cons, List.flatten_cons]; exact h.append ih

/-- A row of the abstract store lies in a block, from a place on; one that may be written lies in a block from B on, without frozen cells. -/
def OR (B : Nat) (ι : Nat → Loc) (s : Store) (w : World) (o : AObj) (p : Loc) : Prop :=
  match o with
  | .none => True
  | .cells xs ro => (xs = [] ∧ ro = true) ∨ ∃ (c : Array Value) (ty : TypeId) (fz : Nat × Nat), w.heap[p.b]? = some (.cells c ty fz) ∧ p.sh ≤ xs.length ∧ p.o + (xs.length - p.sh) ≤ c.size ∧ VRs ι s w (xs.drop p.sh) ((c.toList.drop p.o).take (xs.length - p.sh)) ∧
      (∀ y ∈ (c.toList.drop p.o).take (xs.length - p.sh), y.oneCell' = true) ∧ (ro = false → fz = (0, 0) ∧ B ≤ p.b)
  | .map es st => ∃ (ents : Array MapEntry) (clock : Nat), w.heap[p.b]? = some (.map ents clock) ∧ B ≤ p.b ∧ es.length = ents.size ∧
      (∀ (i : Nat) k v, es[i]? = some (k, v) → ∃ e, ents[i]? = some e ∧ VR ι s w k e.key ∧ VR ι s w v e.val) ∧ st = (ents.toList.map (·.born), clock)
  | .miter m since seen last => ∃ m' : Option Nat, w.heap[p.b]? = some (.mapIter m' since seen.toArray last) ∧ B ≤ p.b ∧ VR ι s w m (.map m') ∧ p.o = 0
  | .siter b pos => w.heap[p.b]? = some (.stringIter b pos) ∧ B ≤ p.b ∧ p.o = 0

theorem OR.later {B : Nat} {ι ι' : Nat → Loc} {s s' : Store} {w w' : World} {o : AObj} {p : Loc} (h : OR B ι s w o p) (k : Later ι s w ι' s' w') (hw : o.live = true → w'.heap[p.b]? = w.heap[p.b]?) : OR B ι' s' w' o p := by
  cases o with
  | none => trivial
  | cells xs ro =>
    rcases h with h | ⟨c, ty, fz, h1, h0, h2, h3, h4⟩
    · exact .inl h
    · by_cases hl : (AObj.cells xs ro).live = true
      · exact .inr ⟨c, ty, fz, (hw hl).trans h1, h0, h2, h3.later k, h4⟩
      · exact .inl (by simpa [AObj.live] using hl)
  | map es st =>
    obtain ⟨ents, clock, h1, h2, h3, h4, h8⟩ := h
    refine ⟨ents, clock, (hw rfl).trans h1, h2, h3, fun i kk v hi => ?_, h8⟩
    obtain ⟨e, h5, h6, h7⟩ := h4 i kk v hi
    exact ⟨e, h5, h6.later k, h7.later k⟩
  | miter m since seen last =>
    obtain ⟨m', h1, h2, h3, h4⟩ := h
    exact ⟨m', (hw rfl).trans h1, h2, h3.later k, h4⟩
  | siter b pos => exact ⟨(hw rfl).trans h.1, h.2⟩

theorem OR.dead {B : Nat} {ι : Nat → Loc} {s : Store} {w : World} {o : AObj} {p : Loc} (h : o.live ≠ true) : OR B ι s w o p := by
  cases o with
  | none => trivial
  | cells xs ro => exact .inl (by simpa [AObj.live] using h)
  | map es st => exact absurd rfl h
  | miter m since seen last => exact absurd rfl h
  | siter b pos => exact absurd rfl h
theorem AObj.live_wr {o : AObj} (h : o.wr = true) : o.live = true := by
  cases o with
  | none => cases h
  | cells xs ro => simp [AObj.wr] at h; simp [AObj.live, h]
  | map es st => rfl
  | miter m since seen last => rfl
  | siter b pos => rfl

/-- The abstract store stands for the world. -/
structure WR (B : Nat) (w0 : World) (ι : Nat → Loc) (s : Store) (w : World) : Prop where
  bel : Below B w0 w
  hB : B ≤ w.heap.size
  obj : ∀ l, l < s.next → OR B ι s w (s.get l) (ι l)
  sep : ∀ l l', l < s.next → l' < s.next → l ≠ l' → (s.get l).wr = true → (s.get l').live = true → (ι l).b ≠ (ι l').b
  glob : ∀ g, VR ι s w (gvA g) (.pointer (some ⟨g, 0, none⟩))

theorem bsz_same {w w' : World} {b : Nat} (h : w'.heap[b]? = w.heap[b]?) : bsz w' b = bsz w b := by unfold bsz; rw [h]

theorem WR.draw {B : Nat} {w0 : World} {ι : Nat → Loc} {s : Store} {w w' : World} (h : WR B w0 ι s w) (h1 : w'.heap = w.heap) (h2 : w'.os = w.os) (h3 : w'.tape = w.tape) (h4 : w'.output = w.output) :
    WR B w0 ι s w' ∧ Later ι s w ι s w' := by
  have k : Later ι s w ι s w' := ⟨Nat.le_refl _, fun _ _ => Nat.le_refl _, fun _ _ _ => rfl, fun b _ => bsz_same (by rw [h1]), by rw [h1]; exact Nat.le_refl _⟩
  refine ⟨⟨⟨h2.trans h.bel.os, h3.trans h.bel.tape, h4.trans h.bel.output, by rw [h1]; exact h.bel.size, fun b hb => by rw [h1]; exact h.bel.block b hb⟩, by rw [h1]; exact h.hB, fun l hl => (h.obj l hl).later k (fun _ => by rw [h1]), h.sep, fun g => (h.glob g).later k⟩, k⟩

theorem heap_lt {w : World} {b : Nat} {o : Obj} (h : w.heap[b]? = some o) : b < w.heap.size := (Array.getElem?_eq_some_iff.1 h).1

/-- Where an existing row lies there is a block. -/
theorem WR.lt {B : Nat} {w0 : World} {ι : Nat → Loc} {s : Store} {w : World} (h : WR B w0 ι s w) {l : Nat} (hl : l < s.next) (hn : (s.get l).live = true) : (ι l).b < w.heap.size := by
  have := h.obj l hl
  cases hg : s.get l with
  | none => rw [hg] at hn; cases hn
  | cells xs ro =>
    rw [hg] at this hn
    rcases this with ⟨h1, h2⟩ | ⟨c, ty, fz, h1, _⟩
    · subst h1; subst h2; cases hn
    · exact heap_lt h1
  | map es st => rw [hg] at this; obtain ⟨c, ty, h1, _⟩ := this; exact heap_lt h1
  | miter m since seen last => rw [hg] at this; obtain ⟨m', h1, _⟩ := this; exact heap_lt h1
  | siter b pos => rw [hg] at this; exact heap_lt this.1

/-- A new row. -/
theorem WR.push {B : Nat} {w0 : World} {ι : Nat → Loc} {s : Store} {w w' : World} (h : WR B w0 ι s w) (o : AObj) (p : Loc) (h2 : w'.os = w.os) (h3 : w'.tape = w.tape) (h4 : w'.output = w.output)
    (hs : w.heap.size ≤ w'.heap.size) (hb : ∀ b, b < w.heap.size → w'.heap[b]? = w.heap[b]?) (hp : w.heap.size ≤ p.b)
    (ho : Later ι s w (fun j => if j = s.next then p else ι j) (s.push o) w' → OR B (fun j => if j = s.next then p else ι j) (s.push o) w' o p) :
    WR B w0 (fun j => if j = s.next then p else ι j) (s.push o) w' ∧ Later ι s w (fun j => if j = s.next then p else ι j) (s.push o) w' := by
  have g : ∀ l, l < s.next → (s.push o).get l = s.get l := fun l hl => by simp only [Store.push]; rw [if_neg (by omega)]
  have k : Later ι s w (fun j => if j = s.next then p else ι j) (s.push o) w' :=
    ⟨by simp [Store.push], fun l hl => by rw [g l hl]; exact Nat.le_refl _, fun l hl _ => if_neg (by omega), fun b hb' => bsz_same (hb b hb'), hs⟩
  refine ⟨⟨⟨h2.trans h.bel.os, h3.trans h.bel.tape, h4.trans h.bel.output, Nat.le_trans h.bel.size hs, fun b hb' => (hb b (Nat.lt_of_lt_of_le hb' h.hB)).trans (h.bel.block b hb')⟩, Nat.le_trans h.hB hs, fun l hl => ?_, fun l l' hl hl' hne hw hn => ?_, fun g => (h.glob g).later k⟩, k⟩
  · by_cases e : l = s.next
    · subst e
      simp only [if_pos]
      have : (s.push o).get s.next = o := by simp [Store.push]
      rw [this]; exact ho k
    · have hl2 : l < s.next := by simp only [Store.push] at hl; omega
      rw [g l hl2]
      simp only [if_neg e]
      exact (h.obj l hl2).later k (fun hn => hb _ (h.lt hl2 hn))
  · have hlt : ∀ j, j < (s.push o).next → j ≠ s.next → j < s.next := fun j hj e => by simp only [Store.push] at hj; omega
    by_cases e : l = s.next
    · have e' : l' ≠ s.next := fun q => hne (e.trans q.symm)
      have hl2 := hlt l' hl' e'
      rw [g l' hl2] at hn
      have := h.lt hl2 hn
      simp only [if_pos e, if_neg e']
      omega
    · have hl2 := hlt l hl e
      rw [g l hl2] at hw
      have hwl := AObj.live_wr hw
      by_cases e' : l' = s.next
      · have := h.lt hl2 hwl
        simp only [if_neg e, if_pos e']
        omega
      · have hl3 := hlt l' hl' e'
        rw [g l' hl3] at hn
        simp only [if_neg e, if_neg e']
        exact h.sep l l' hl2 hl3 hne hw hn

/-- A row that may be written is another one now: in its block, or in a new one. -/
theorem WR.update {B : Nat} {w0 : World} {ι : Nat → Loc} {s : Store} {w w' : World} (h : WR B w0 ι s w) {l : Nat} (hl : l < s.next) (hwr : (s.get l).wr = true) (hge : B ≤ (ι l).b) (o : AObj) (p : Loc)
    (hsz : (s.get l).size ≤ o.size) (hmv : o.size = (s.get l).size → p = ι l) (h2 : w'.os = w.os) (h3 : w'.tape = w.tape) (h4 : w'.output = w.output)
    (hs : w.heap.size ≤ w'.heap.size) (hb : ∀ b, b < w.heap.size → b ≠ (ι l).b → w'.heap[b]? = w.heap[b]?) (hbs : bsz w' (ι l).b = bsz w (ι l).b) (hp : p.b = (ι l).b ∨ w.heap.size ≤ p.b)
    (ho : Later ι s w (fun j => if j = l then p else ι j) (s.set l o) w' → OR B (fun j => if j = l then p else ι j) (s.set l o) w' o p) :
    WR B w0 (fun j => if j = l then p else ι j) (s.set l o) w' ∧ Later ι s w (fun j => if j = l then p else ι j) (s.set l o) w' := by
  have g : ∀ j, j ≠ l → (s.set l o).get j = s.get j := fun j hj => by simp only [Store.set]; rw [if_neg hj]
  have gl : (s.set l o).get l = o := by simp [Store.set]
  have hln := AObj.live_wr hwr
  have k : Later ι s w (fun j => if j = l then p else ι j) (s.set l o) w' := by
    refine ⟨Nat.le_refl _, fun j _ => ?_, fun j _ e => ?_, fun b hb' => ?_, hs⟩
    · by_cases e : j = l
      · subst e; rw [gl]; exact hsz
      · rw [g j e]; exact Nat.le_refl _
    · by_cases e' : j = l
      · subst e'; rw [gl] at e; simp only [if_pos]; exact hmv e
      · simp only [if_neg e']
    · by_cases e : b = (ι l).b
      · rw [e]; exact hbs
      · exact bsz_same (hb b hb' e)
  refine ⟨⟨⟨h2.trans h.bel.os, h3.trans h.bel.tape, h4.trans h.bel.output, Nat.le_trans h.bel.size hs, fun b hb' => (hb b (Nat.lt_of_lt_of_le hb' h.hB) (by omega)).trans (h.bel.block b hb')⟩, Nat.le_trans h.hB hs, fun j hj => ?_, fun j j' hj hj' hne hw hn => ?_, fun g => (h.glob g).later k⟩, k⟩
  · by_cases e : j = l
    · subst e
      rw [gl]
      simp only [if_pos]
      exact ho k
    · rw [g j e]
      simp only [if_neg e]
      exact (h.obj j hj).later k (fun hn => hb _ (h.lt hj hn) (fun q => h.sep l j hl hj (fun z => e z.symm) hwr hn q.symm))
  · by_cases e : j = l
    · have e' : j' ≠ l := fun q => hne (e.trans q.symm)
      rw [g j' e'] at hn
      simp only [if_pos e, if_neg e']
      rcases hp with hp | hp
      · rw [hp]; exact h.sep l j' hl hj' (fun z => e' z.symm) hwr hn
      · have := h.lt hj' hn; omega
    · rw [g j e] at hw
      have hjn := AObj.live_wr hw
      by_cases e' : j' = l
      · simp only [if_neg e, if_pos e']
        rcases hp with hp | hp
        · rw [hp]; exact h.sep j l hj hl e hw hln
        · have := h.lt hj hjn; omega
      · rw [g j' e'] at hn
        simp only [if_neg e, if_neg e']
        exact h.sep j j' hj hj' hne hw hn
end Go.Proofs.YtjbgdpfkmcibbaaGreatDoor.Sim
