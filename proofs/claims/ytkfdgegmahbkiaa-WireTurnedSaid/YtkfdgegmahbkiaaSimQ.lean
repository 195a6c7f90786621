/- The texts SimP, SimQ, one behind the other. No condition. -/
import Derived.Test.YtkfdgegmahbkiaaSimZb
import Derived.Deep.Slices
import Derived.ChangeArms
import Derived.WideShapes
import Derived.Carry
import Derived.SizedLaws
import Derived.KernelRfl
namespace Go.Proofs.Ytkfdgegmahbkiaa.Sim
open Go.ChangeShapes Go.WideShapes Go.RowKit Go.Deep
set_option linter.unusedSimpArgs false

def Store.empty : Store := ⟨0, fun _ => .none⟩
def Store.plain (s : Store) : Prop := ∀ l, l < s.next → (s.get l).wr = false

/-- How values of a kind are laid: their cells, the rows that they need. -/
structure Sh (α : Type) where
  n : Nat
  put : α → Store → List AV × Store
  wf : α → Prop

structure ShOk {α : Type} (P : Program) (t : TypeId) (S : Sh α) : Prop where
  sz : P.cellsOf t = S.n
  go : ∀ {H : Type} {enc : TypeId × Value → H} {w : World} {fuel : Nat} {cs : List Value} {x : DataW H × List MemPlace}, DataW.trod enc P w 0 (fun _ => true) true fuel t cs = some x →
    ∃ a, S.wf a ∧ ∀ {B : Nat} {w0 : World} {ι : Nat → Loc} {s : Store}, s.plain → WR B w0 ι s w → ∃ ι', WR B w0 ι' (S.put a s).2 w ∧ (S.put a s).2.plain ∧ Later ι s w ι' (S.put a s).2 w ∧ VRs ι' (S.put a s).2 w (S.put a s).1 cs ∧ ∀ y ∈ cs, y.oneCell' = true

def shInt (k : IntKind) : Sh Int := ⟨1, fun n s => ([.int k n], s), fun n => (Lit.int k n).wf = true⟩
def Sh.putL {α : Type} (S : Sh α) : List α → Store → List AV × Store
  | [], s => ([], s)
  | x :: l, s => ((S.put x s).1 ++ (S.putL l (S.put x s).2).1, (S.putL l (S.put x s).2).2)
def shSlice {α : Type} (S : Sh α) : Sh (Option (List α)) :=
  ⟨1, fun o s => match o with
    | none => ([.nilsl], s)
    | some l => ([.sl (S.putL l s).2.next 0 l.length S.n (l.length * S.n)], (S.putL l s).2.push (.cells (S.putL l s).1 true)), fun o => ∀ l, o = some l → l.length ≤ maxLen ∧ ∀ x ∈ l, S.wf x⟩
def shPair {α β : Type} (S : Sh α) (T : Sh β) : Sh (α × β) := ⟨S.n + T.n, fun x s => ((S.put x.1 s).1 ++ (T.put x.2 (S.put x.1 s).2).1, (T.put x.2 (S.put x.1 s).2).2), fun x => S.wf x.1 ∧ T.wf x.2⟩

theorem ok_int {P : Program} {t : TypeId} {k : IntKind} (ht : P.underlying t = some (.int k)) (hc : P.cellsOf t = 1) : ShOk P t (shInt k) :=
  ⟨hc, fun h => by
    obtain ⟨n, rfl, _, hw⟩ := DataW.trod_int ht h
    exact ⟨n, hw, fun {B w0 ι s} hp hW => ⟨ι, hW, hp, Later.refl _ _ _, .cons (.int _ _) (.nil _ _ _), fun y hy => by simp at hy; subst hy; rfl⟩⟩⟩
/-- A row that nobody writes lies wherever it lies. -/
theorem WR.push_ro {B : Nat} {w0 : World} {ι : Nat → Loc} {s : Store} {w : World} (h : WR B w0 ι s w) (hp : s.plain) (xs : List AV) (p : Loc)
    (ho : Later ι s w (fun j => if j = s.next then p else ι j) (s.push (.cells xs true)) w → OR B (fun j => if j = s.next then p else ι j) (s.push (.cells xs true)) w (.cells xs true) p) :
    WR B w0 (fun j => if j = s.next then p else ι j) (s.push (.cells xs true)) w ∧ (s.push (.cells xs true)).plain ∧ Later ι s w (fun j => if j = s.next then p else ι j) (s.push (.cells xs true)) w := by
  have g : ∀ l, l < s.next → (s.push (.cells xs true)).get l = s.get l := fun l hl => by simp only [Store.push]; rw [if_neg (by omega)]
  have gn : (s.push (.cells xs true)).get s.next = .cells xs true := by simp [Store.push]
  have k : Later ι s w (fun j => if j = s.next then p else ι j) (s.push (.cells xs true)) w :=
    ⟨by simp [Store.push], fun l hl => by rw [g l hl]; exact Nat.le_refl _, fun l hl _ => if_neg (by omega), fun b hb' => rfl, Nat.le_refl _⟩
  have hpl : (s.push (.cells xs true)).plain := by
    intro l hl
    by_cases e : l = s.next
    · rw [e, gn]; rfl
    · have hl2 : l < s.next := by simp only [Store.push] at hl; omega
      rw [g l hl2]; exact hp l hl2
  refine ⟨⟨h.bel, h.hB, fun l hl => ?_, fun l l' hl hl' hne hw hn => ?_, fun g => (h.glob g).later k⟩, hpl, k⟩
  · by_cases e : l = s.next
    · subst e
      simp only [if_pos]
      rw [gn]; exact ho k
    · have hl2 : l < s.next := by simp only [Store.push] at hl; omega
      rw [g l hl2]
      simp only [if_neg e]
      exact (h.obj l hl2).later k (fun _ => rfl)
  · have := hpl l hl
    rw [this] at hw; cases hw

theorem putL_ok {α : Type} {P : Program} {t : TypeId} {S : Sh α} {w : World} : ∀ (l : List α) (css : List (List Value)), l.length = css.length →
    (∀ (i : Nat) x cs, l[i]? = some x → css[i]? = some cs → ∀ {B : Nat} {w0 : World} {ι : Nat → Loc} {s : Store}, s.plain → WR B w0 ι s w → ∃ ι', WR B w0 ι' (S.put x s).2 w ∧ (S.put x s).2.plain ∧ Later ι s w ι' (S.put x s).2 w ∧ VRs ι' (S.put x s).2 w (S.put x s).1 cs ∧ ∀ y ∈ cs, y.oneCell' = true) →
    ∀ {B : Nat} {w0 : World} {ι : Nat → Loc} {s : Store}, s.plain → WR B w0 ι s w → ∃ ι', WR B w0 ι' (S.putL l s).2 w ∧ (S.putL l s).2.plain ∧ Later ι s w ι' (S.putL l s).2 w ∧ VRs ι' (S.putL l s).2 w (S.putL l s).1 css.flatten ∧ ∀ y ∈ css.flatten, y.oneCell' = true
  | [], [], _, _, B, w0, ι, s, hp, hW => ⟨ι, hW, hp, Later.refl _ _ _, .nil _ _ _, fun y hy => by simp at hy⟩
  | [], _ :: _, hl, _, _, _, _, _, _, _ => by simp at hl
  | _ :: _, [], hl, _, _, _, _, _, _, _ => by simp at hl
  | x :: l, cs :: css, hl, hx, B, w0, ι, s, hp, hW => by
    obtain ⟨ι1, h1, h2, h3, h4, h5⟩ := hx 0 x cs rfl rfl hp hW
    obtain ⟨ι2, k1, k2, k3, k4, k5⟩ := putL_ok (P := P) (t := t) (S := S) l css (by simpa using hl) (fun i y c hy hc => hx (i + 1) y c (by simpa using hy) (by simpa using hc)) h2 h1
    refine ⟨ι2, k1, k2, h3.trans k3, (h4.later k3).append k4, fun y hy => ?_⟩
    rcases List.mem_append.1 hy with hy | hy
    · exact h5 y hy
    · exact k5 y hy

theorem cell_in {w : World} {a : Addr} {v : Value} (h : w.cell? a = some v) : ∃ c ty fz, w.heap[a.block]? = some (.cells c ty fz) ∧ a.spot = none ∧ a.off < c.size := by
  unfold World.cell? at h
  split at h
  · rename_i c ty fz hb
    split at h
    · cases h
    · rename_i hs
      exact ⟨c, ty, fz, hb, by simpa using hs, (Array.getElem?_eq_some_iff.1 h).1⟩
  · cases h

theorem ok_slice {P : Program} {α : Type} {t e : TypeId} {S : Sh α} (ht : P.underlying t = some (.slice e)) (hc : P.cellsOf t = 1) (h : ShOk P e S) (hn0 : 0 < S.n) : ShOk P t (shSlice S) :=
  ⟨hc, fun {H enc w fuel cs x} hx => by
    rcases open_slice ht hx with ⟨rfl, _⟩ | ⟨a, len, cap, m, n, D, Pl, rfl, _, hl, hm, hmm, _, hi⟩
    · exact ⟨none, fun l hl => by simp at hl, fun {B w0 ι s} hp hW => ⟨ι, hW, hp, Later.refl _ _ _, .cons .nilsl (.nil _ _ _), fun y hy => by simp at hy; subst hy; rfl⟩⟩
    · have hmc : cap = m := by simpa using hmm.symm
      subst hmc
      have each : ∀ i, i < len → ∃ (y : α) (cs' : List Value), (w.cells? 0 (a.add (i * P.cellsOf e)) (P.cellsOf e) = some cs' ∧ S.wf y) ∧ ∀ {B : Nat} {w0 : World} {ι : Nat → Loc} {s : Store}, s.plain → WR B w0 ι s w → ∃ ι', WR B w0 ι' (S.put y s).2 w ∧ (S.put y s).2.plain ∧ Later ι s w ι' (S.put y s).2 w ∧ VRs ι' (S.put y s).2 w (S.put y s).1 cs' ∧ ∀ y ∈ cs', y.oneCell' = true := fun i hil => by
        obtain ⟨cs', h1, h2⟩ := hi i (by omega)
        obtain ⟨y, h3, h4⟩ := h.go h2
        exact ⟨y, cs', ⟨h1, h3⟩, h4⟩
      obtain ⟨l, css, hll, hcl, hall⟩ : ∃ (l : List α) (css : List (List Value)), l.length = len ∧ css.length = len ∧ ∀ (i : Nat) y cs', l[i]? = some y → css[i]? = some cs' → (w.cells? 0 (a.add (i * P.cellsOf e)) (P.cellsOf e) = some cs' ∧ S.wf y) ∧ ∀ {B : Nat} {w0 : World} {ι : Nat → Loc} {s : Store}, s.plain → WR B w0 ι s w → ∃ ι', WR B w0 ι' (S.put y s).2 w ∧ (S.put y s).2.plain ∧ Later ι s w ι' (S.put y s).2 w ∧ VRs ι' (S.put y s).2 w (S.put y s).1 cs' ∧ ∀ y ∈ cs', y.oneCell' = true := by
        clear hi hx hmm
        have : ∀ n, n ≤ len → ∃ (l : List α) (css : List (List Value)), l.length = n ∧ css.length = n ∧ ∀ (i : Nat) y cs', l[i]? = some y → css[i]? = some cs' → (w.cells? 0 (a.add (i * P.cellsOf e)) (P.cellsOf e) = some cs' ∧ S.wf y) ∧ ∀ {B : Nat} {w0 : World} {ι : Nat → Loc} {s : Store}, s.plain → WR B w0 ι s w → ∃ ι', WR B w0 ι' (S.put y s).2 w ∧ (S.put y s).2.plain ∧ Later ι s w ι' (S.put y s).2 w ∧ VRs ι' (S.put y s).2 w (S.put y s).1 cs' ∧ ∀ y ∈ cs', y.oneCell' = true := by
          intro n
          induction n with
          | zero => exact fun _ => ⟨[], [], rfl, rfl, fun i y cs' hy => by simp at hy⟩
          | succ n ih =>
            intro hn
            obtain ⟨l, css, h1, h2, h3⟩ := ih (by omega)
            obtain ⟨y, cs', h4⟩ := each n (by omega)
            refine ⟨l ++ [y], css ++ [cs'], by simp [h1], by simp [h2], fun i z cz hz hcz => ?_⟩
            by_cases hil : i < n
            · rw [List.getElem?_append_left (by omega)] at hz hcz
              exact h3 i z cz hz hcz
            · have hin : i = n := by
                have := (List.getElem?_eq_some_iff.1 hz).1
                simp at this; omega
              subst hin
              rw [List.getElem?_append_right (by omega), h1, Nat.sub_self] at hz
              rw [List.getElem?_append_right (by omega), h2, Nat.sub_self] at hcz
              obtain rfl := Option.some.inj hz
              obtain rfl := Option.some.inj hcz
              exact h4
        exact this len (Nat.le_refl _)
      have hcs : ∀ (i : Nat) cs', css[i]? = some cs' → cs'.length = S.n ∧ ∀ j, j < S.n → w.cell? (a.add (i * S.n + j)) = cs'[j]? := by
        intro i cs' hcz
        have hil := (List.getElem?_eq_some_iff.1 hcz).1
        have hy : l[i]? = some (l[i]'(by omega)) := List.getElem?_eq_getElem (by omega)
        obtain ⟨_, g1, g2⟩ := World.cells?_some (hall i _ cs' hy hcz).1.1
        rw [h.sz] at g1 g2
        exact ⟨g1, fun j hj => by rw [← g2 j hj, add_add]⟩
      have hflen : ∀ (css : List (List Value)) (k : Nat), (∀ c ∈ css, c.length = k) → css.flatten.length = css.length * k := by
        intro css k hk
        induction css with
        | nil => simp
        | cons c css ih => rw [List.flatten_cons, List.length_append, hk c List.mem_cons_self, ih (fun d hd => hk d (List.mem_cons_of_mem _ hd))]; simp [Nat.succ_mul]; omega
      have hfget : ∀ (css : List (List Value)) (k i j : Nat) (cs' : List Value), (∀ c ∈ css, c.length = k) → css[i]? = some cs' → j < k → css.flatten[i * k + j]? = cs'[j]? := by
        intro css k i j cs' hk hi hj
        induction css generalizing i with
        | nil => simp at hi
        | cons c css ih =>
          rw [List.flatten_cons]
          have hc := hk c List.mem_cons_self
          cases i with
          | zero =>
            obtain rfl := Option.some.inj hi
            rw [List.getElem?_append_left (by omega)]
            congr 1; omega
          | succ i =>
            have hm2 : (i + 1) * k = i * k + k := Nat.succ_mul i k
            rw [List.getElem?_append_right (by omega)]
            have := ih i (fun d hd => hk d (List.mem_cons_of_mem _ hd)) (by simpa using hi)
            rw [← this]
            congr 1; omega
      have hall_len : ∀ c ∈ css, c.length = S.n := fun c hcm => by
        obtain ⟨i, hil, rfl⟩ := List.getElem_of_mem hcm
        exact (hcs i _ (List.getElem?_eq_getElem hil)).1
      have hfl := hflen css S.n hall_len
      rw [hcl] at hfl
      refine ⟨some l, fun l' hl' => ?_, fun {B w0 ι s} hp hW => ?_⟩
      · obtain rfl := Option.some.inj hl'
        refine ⟨by omega, fun y hy => ?_⟩
        obtain ⟨i, hil, rfl⟩ := List.getElem_of_mem hy
        exact (hall i _ _ (List.getElem?_eq_getElem hil) (List.getElem?_eq_getElem (by omega : i < css.length))).1.2
      · obtain ⟨ι1, k1, k2, k3, k4, k5⟩ := putL_ok (P := P) (t := e) (S := S) l css (by omega) (fun i y cs' hy hcz => (hall i y cs' hy hcz).2) hp hW
        have hrow : (S.putL l s).1.length = len * S.n := by rw [k4.1, hfl]
        -- where it lies
        have place : 0 < cap → ∃ c ty fz, w.heap[a.block]? = some (.cells c ty fz) ∧ a.spot = none ∧ a.off + cap * S.n ≤ c.size := by
          intro hcap
          obtain ⟨cs0, q1, _⟩ := hi 0 hcap
          obtain ⟨_, g1, g2⟩ := World.cells?_some q1
          rw [h.sz] at g1 g2
          have hv0 : w.cell? a = some (cs0[0]'(by omega)) := by
            have := g2 0 hn0
            simp only [Nat.zero_mul] at this
            rw [add_add] at this
            have e0 : a.add (0 + 0) = a := by simp [Addr.add]
            rw [e0] at this
            rw [this, List.getElem?_eq_getElem]
          obtain ⟨c, ty, fz, b1, b2, b3⟩ := cell_in hv0
          refine ⟨c, ty, fz, b1, b2, ?_⟩
          obtain ⟨cs1, q1', _⟩ := hi (cap - 1) (by omega)
          obtain ⟨_, g1', g2'⟩ := World.cells?_some q1'
          rw [h.sz] at g1' g2'
          have hv1 : w.cell? (a.add ((cap - 1) * S.n + (S.n - 1))) = some (cs1[S.n - 1]'(by omega)) := by
            have := g2' (S.n - 1) (by omega)
            rw [add_add] at this
            rw [this, List.getElem?_eq_getElem]
          obtain ⟨c', ty', fz', b1', b2', b3'⟩ := cell_in hv1
          have hblk : (a.add ((cap - 1) * S.n + (S.n - 1))).block = a.block := by unfold Addr.add; split <;> rfl
          have hoff : (a.add ((cap - 1) * S.n + (S.n - 1))).off = a.off + ((cap - 1) * S.n + (S.n - 1)) := by
            unfold Addr.add
            split
            · rename_i z0; rw [z0]; rfl
            · rfl
          rw [hblk, b1] at b1'
          injection b1' with b1'
          injection b1' with e1 e2 e3
          subst e1
          rw [hoff] at b3'
          have hmul : cap * S.n = (cap - 1) * S.n + S.n := by rw [← Nat.succ_mul]; congr 1; omega
          omega
        obtain ⟨j1, j2, j3⟩ := k1.push_ro k2 (S.putL l s).1 ⟨a.block, a.off, 0⟩ (fun k => by
          by_cases hz : (S.putL l s).1 = []
          · exact .inl ⟨hz, rfl⟩
          · have hpos : 0 < len * S.n := by rw [← hrow]; exact List.length_pos_iff.2 hz
            have hlen : 0 < len := Nat.pos_of_mul_pos_right hpos
            obtain ⟨c, ty, fz, b1, b2, b3⟩ := place (by omega)
            have hle : len * S.n ≤ cap * S.n := Nat.mul_le_mul_right _ hl
            have hsame : (c.toList.drop a.off).take (len * S.n) = css.flatten := by
              apply List.ext_getElem?
              intro q
              by_cases hq : q < len * S.n
              · rw [List.getElem?_take, if_pos hq, List.getElem?_drop]
                have hdiv : q / S.n < len := Nat.div_lt_of_lt_mul (by rw [Nat.mul_comm]; exact hq)
                have hmod : q % S.n < S.n := Nat.mod_lt _ hn0
                have hqe : q / S.n * S.n + q % S.n = q := by rw [Nat.mul_comm]; exact Nat.div_add_mod q S.n
                have hcz : css[q / S.n]? = some (css[q / S.n]'(by omega)) := List.getElem?_eq_getElem (by omega)
                have f1 := hfget css S.n (q / S.n) (q % S.n) _ hall_len hcz hmod
                have f2 := (hcs _ _ hcz).2 (q % S.n) hmod
                rw [hqe] at f1 f2
                rw [f1, ← f2]
                have hae : a.add q = ⟨a.block, a.off + q, none⟩ := by
                  obtain ⟨ab, ao, asp⟩ := a
                  simp only at b2
                  subst b2
                  exact add_mk _ _ _
                rw [hae]
                simp [World.cell?, b1]
              · rw [List.getElem?_take, if_neg hq, List.getElem?_eq_none (by omega)]
            refine .inr ⟨c, ty, fz, b1, Nat.zero_le _, by rw [hrow]; simp only [Nat.sub_zero]; omega, ?_, ?_, fun q => by cases q⟩
            · rw [hrow, Nat.sub_zero, List.drop_zero, hsame]; exact k4.later k
            · rw [hrow, Nat.sub_zero, hsame]; exact k5)
        refine ⟨_, j1, j2, k3.trans j3, ?_, fun y hy => by rw [List.mem_singleton.1 hy]; rfl⟩
        show VRs _ ((S.putL l s).2.push (.cells (S.putL l s).1 true)) w [.sl (S.putL l s).2.next 0 l.length S.n (l.length * S.n)] _
        rw [hll]
        refine VRs.cons ?_ (.nil _ _ _)
        refine VR.sl (Nat.lt_succ_self _) ?_ (fun _ => ⟨by simp, fun hcap => ?_⟩) (by omega) (by rw [Nat.zero_add]; exact Nat.mul_le_mul_right _ (by omega))
        · simp [Store.push, AObj.size, hrow]
        obtain ⟨c, ty, fz, b1, b2, b3⟩ := place hcap
        refine ⟨?_, heap_lt b1, ?_⟩
        · obtain ⟨ab, ao, asp⟩ := a
          simp only at b2
          subst b2
          simp
        · unfold bsz; rw [b1]; exact b3⟩

/-- Fields that lie one behind the other from 'off' on. -/
structure ShF {α : Type} (P : Program) (off : Nat) (fs : List Field) (S : Sh α) : Prop where
  go : ∀ {H : Type} {enc : TypeId × Value → H} {w : World} {fuel : Nat} {cs : List Value}, cs.length = S.n →
    (∀ (i : Nat) (f : Field), fs[i]? = some f → ∃ y, DataW.trod enc P w 0 (fun _ => true) true fuel f.type ((cs.drop (f.offset - off)).take (P.cellsOf f.type)) = some y) →
    ∃ a, S.wf a ∧ ∀ {B : Nat} {w0 : World} {ι : Nat → Loc} {s : Store}, s.plain → WR B w0 ι s w → ∃ ι', WR B w0 ι' (S.put a s).2 w ∧ (S.put a s).2.plain ∧ Later ι s w ι' (S.put a s).2 w ∧ VRs ι' (S.put a s).2 w (S.put a s).1 cs ∧ ∀ y ∈ cs, y.oneCell' = true

theorem okf_one {P : Program} {α : Type} {off : Nat} {f : Field} {S : Sh α} (ho : f.offset = off) (h : ShOk P f.type S) : ShF P off [f] S :=
  ⟨fun {H enc w fuel cs} hl hf => by
    obtain ⟨y, hy⟩ := hf 0 f rfl
    rw [ho, Nat.sub_self, List.drop_zero, h.sz, ← hl, List.take_length] at hy
    exact h.go hy⟩

theorem okf_cons {P : Program} {α β : Type} {off : Nat} {f : Field} {fs : List Field} {S : Sh α} {T : Sh β} (ho : f.offset = off) (h : ShOk P f.type S)
    (hge : ∀ g ∈ fs, off + S.n ≤ g.offset) (h' : ShF P (off + S.n) fs T) : ShF P off (f :: fs) (shPair S T) :=
  ⟨fun {H enc w fuel cs} hl hf => by
    have hl' : cs.length = S.n + T.n := hl
    obtain ⟨y, hy⟩ := hf 0 f rfl
    rw [ho, Nat.sub_self, List.drop_zero, h.sz] at hy
    obtain ⟨a, hwa, ha⟩ := h.go hy
    obtain ⟨b, hwb, hb⟩ := h'.go (enc := enc) (w := w) (fuel := fuel) (cs := cs.drop S.n) (by rw [List.length_drop]; omega) (fun i g hg => by
      obtain ⟨z, hz⟩ := hf (i + 1) g hg
      have hgo := hge g (List.mem_of_getElem? hg)
      rw [List.drop_drop, show S.n + (g.offset - (off + S.n)) = g.offset - off by omega]
      exact ⟨z, hz⟩)
    refine ⟨(a, b), ⟨hwa, hwb⟩, fun {B w0 ι s} hp hW => ?_⟩
    obtain ⟨ι1, k1, k2, k3, k4, k5⟩ := ha hp hW
    obtain ⟨ι2, j1, j2, j3, j4, j5⟩ := hb k2 k1
    refine ⟨ι2, j1, j2, k3.trans j3, ?_, fun y hy => ?_⟩
    · have := (k4.later j3).append j4
      rwa [List.take_append_drop] at this
    · rw [← List.take_append_drop S.n cs] at hy
      rcases List.mem_append.1 hy with hy | hy
      · exact k5 y hy
      · exact j5 y hy⟩

theorem ok_struct {P : Program} {α : Type} {t : TypeId} {fs : Array Field} {S : Sh α} (ht : P.underlying t = some (.struct fs)) (hc : P.cellsOf t = S.n) (h : ShF P 0 fs.toList S) : ShOk P t S :=
  ⟨hc, fun {H enc w fuel cs x} hx => by
    obtain ⟨xs, n, _, _, hl, hlen, hg⟩ := DataW.trod_struct ht hx
    exact h.go (enc := enc) (w := w) (fuel := n) (cs := cs) (hl.trans hc) (fun i f hf => by
      have hf' : fs[i]? = some f := by simpa using hf
      have hil : i < fs.size := (Array.getElem?_eq_some_iff.1 hf').1
      refine ⟨xs[i]'(by omega), ?_⟩
      rw [Nat.sub_zero, hg i f hf', List.getElem?_eq_getElem (by omega)])⟩

/-- The beginning: an empty store. -/
theorem WR.start (w : World) : WR w.heap.size w (fun _ => ⟨0, 0, 0⟩) Store.empty w :=
  ⟨Below.refl _ _, Nat.le_refl _, fun l hl => absurd hl (Nat.not_lt_zero l), fun l _ hl => absurd hl (Nat.not_lt_zero l), fun _ => .junk _⟩
theorem plain_empty : Store.empty.plain := fun l hl => absurd hl (Nat.not_lt_zero l)

section
variable {H : Type} {enc : TypeId × Value → H} {P : Program} {W : World} {r : Reach} {b0 : Nat} {t : TypeId} {v : Value} {dat : DataW H} {ps : List MemPlace}

/-- One argument more. -/
theorem arg_one {α : Type} {S : Sh α} (ho : ShOk P t S) (hv : v.cells = #[v]) (h : DataW.Trod enc P W 0 (fun _ => true) true t v dat ps) :
    ∃ a, S.wf a ∧ ∀ {B : Nat} {w0 : World} {ι : Nat → Loc} {s : Store} {xs : List AV} {ys : List Value}, s.plain → WR B w0 ι s W → VRs ι s W xs ys → ∃ ι', WR B w0 ι' (S.put a s).2 W ∧ (S.put a s).2.plain ∧ VRs ι' (S.put a s).2 W (xs ++ (S.put a s).1) (ys ++ [v]) := by
  obtain ⟨fuel, hf⟩ := h
  rw [hv] at hf
  obtain ⟨a, h1, h2⟩ := ho.go hf
  refine ⟨a, h1, fun {B w0 ι s xs ys} hp hW hV => ?_⟩
  obtain ⟨ι', k1, k2, k3, k4, _⟩ := h2 hp hW
  exact ⟨ι', k1, k2, (hV.later k3).append k4⟩
end

end Go.Proofs.Ytkfdgegmahbkiaa.Sim
namespace Go.Proofs.Ytkfdgegmahbkiaa.Sim
open Go.ChangeShapes Go.WideShapes Go.RowKit Go.Deep

section
variable {P : Program} {W : World} {r : Reach} {b0 : Nat} {t : TypeId} {v : Value}
theorem one_int {k : IntKind} (ht : P.underlying t = some (.int k)) (h : Value.okWide P W r b0 t v) : v.cells = #[v] := by obtain ⟨n, rfl⟩ := okWide_int ht h; rfl
/-- A struct, as one argument. -/
def Sh.agg {α : Type} (S : Sh α) : Sh α := ⟨1, fun a s => ([.agg (S.put a s).1], (S.put a s).2), S.wf⟩

/-- What an argument's shape must do for a row. -/
def ArgOk {α : Type} (S : Sh α) (W : World) (v : Value) : Prop := ∃ a, S.wf a ∧ ∀ {B : Nat} {w0 : World} {ι : Nat → Loc} {s : Store} {xs : List AV} {ys : List Value}, s.plain → WR B w0 ι s W → VRs ι s W xs ys → ∃ ι', WR B w0 ι' (S.put a s).2 W ∧ (S.put a s).2.plain ∧ VRs ι' (S.put a s).2 W (xs ++ (S.put a s).1) (ys ++ [v])

variable {H : Type} {enc : TypeId × Value → H} {dat : DataW H} {ps : List MemPlace}
theorem ArgOk.one {α : Type} {S : Sh α} (ho : ShOk P t S) (hv : v.cells = #[v]) (h : DataW.Trod enc P W 0 (fun _ => true) true t v dat ps) : ArgOk S W v := arg_one ho hv h

theorem ArgOk.struct {α : Type} {S : Sh α} {fs : Array Field} (ht : P.underlying t = some (.struct fs)) (ho : ShOk P t S) (hv : Value.okWide P W r b0 t v) (h : DataW.Trod enc P W 0 (fun _ => true) true t v dat ps) : ArgOk S.agg W v := by
  obtain ⟨cs, rfl, _⟩ := okWide_struct ht hv
  obtain ⟨fuel, hf⟩ := h
  have hf' : DataW.trod enc P W 0 (fun _ => true) true fuel t cs.toList = some (dat, ps) := hf
  obtain ⟨a, h1, h2⟩ := ho.go hf'
  refine ⟨a, h1, fun {B w0 ι s xs ys} hp hW hV => ?_⟩
  obtain ⟨ι', k1, k2, k3, k4, k5⟩ := h2 hp hW
  refine ⟨ι', k1, k2, (hV.later k3).append ?_⟩
  refine .cons (.agg (by simpa using k4.1) (fun i x y hx hy => k4.2 i x y hx (by simpa using hy)) k5) (.nil _ _ _)
end
end Go.Proofs.Ytkfdgegmahbkiaa.Sim
