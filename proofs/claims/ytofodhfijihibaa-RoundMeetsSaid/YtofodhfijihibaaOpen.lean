/- How an argument that reads as data is opened to a value of a kind (Kd), for numbers, bools, strings, slices and structs of these, nested. No condition. -/
import Derived.Test.YtofodhfijihibaaWMore
import Derived.Deep.Slices
import Derived.ChangeArms
import Derived.WideShapes
import Derived.Carry
import Derived.SizedLaws
namespace Go.Proofs.Ytofodhfijihibaa.Open
open Go.ChangeShapes Go.WideShapes Go.RowKit Go.Deep Go.Proofs.YtofodhfijihibaaW.PrintWords

/-- Whatever cells read as data of type t are those of a value of the kind d that meets wf. -/
structure Op {α : Type} (P : Program) (t : TypeId) (d : Kd α) (wf : α → Prop) : Prop where
  sz : P.cellsOf t = d.sz
  go : ∀ {H : Type} {enc : TypeId × Value → H} {w : World} {fuel : Nat} {cs : List Value} {x : DataW H × List MemPlace},
    DataW.trod enc P w 0 (fun _ => true) true fuel t cs = some x → ∃ a, d.K w a cs ∧ wf a

theorem op_int {P : Program} {t : TypeId} {k : IntKind} (ht : P.underlying t = some (.int k)) (hc : P.cellsOf t = 1) : Op P t (Kd.int k) (fun n => (Lit.int k n).wf = true) :=
  ⟨hc, fun h => by
    obtain ⟨n, rfl, _, hw⟩ := DataW.trod_int ht h
    exact ⟨n, rfl, hw⟩⟩
theorem op_bool {P : Program} {t : TypeId} (ht : P.underlying t = some .bool) (hc : P.cellsOf t = 1) : Op P t Kd.bool (fun _ => True) :=
  ⟨hc, fun h => by
    obtain ⟨n, rfl, _⟩ := DataW.trod_bool ht h
    exact ⟨n, rfl, trivial⟩⟩
theorem op_string {P : Program} {t : TypeId} (ht : P.underlying t = some .string) (hc : P.cellsOf t = 1) : Op P t Kd.string (fun s => s.size ≤ maxLen) :=
  ⟨hc, fun h => by
    obtain ⟨n, rfl, _, hs⟩ := DataW.trod_string ht h
    exact ⟨n, rfl, hs⟩⟩

theorem op_slice {P : Program} {α : Type} {t e : TypeId} {d : Kd α} {wf : α → Prop} (ht : P.underlying t = some (.slice e)) (hc : P.cellsOf t = 1) (h : Op P e d wf) :
    Op P t (Kd.slice e d) (fun l => l.length ≤ maxLen ∧ ∀ x ∈ l, wf x) :=
  ⟨hc, fun {H enc w fuel cs x} hx => by
    rcases open_slice ht hx with ⟨rfl, _⟩ | ⟨a, len, cap, m, n, D, Pl, rfl, _, hl, hm, hmm, _, hi⟩
    · exact ⟨[], ⟨none, 0, rfl, Nat.le_refl _, ⟨rfl, by simp, fun hn => absurd hn (Nat.lt_irrefl 0)⟩⟩, Nat.zero_le _, fun x hx => by simp at hx⟩
    · have hml : len ≤ m := by rw [hmm]; split <;> omega
      have each : ∀ i, i < len → ∃ y : α, (∃ cs', d.K w y cs' ∧ w.cells? 0 (a.add (i * P.cellsOf e)) (P.cellsOf e) = some cs') ∧ wf y := fun i hil => by
        obtain ⟨cs', h1, h2⟩ := hi i (by omega)
        obtain ⟨y, h3, h4⟩ := h.go h2
        exact ⟨y, ⟨cs', h3, h1⟩, h4⟩
      obtain ⟨l, hll, hall⟩ : ∃ l : List α, l.length = len ∧ ∀ i (hi : i < l.length), (∃ cs', d.K w l[i] cs' ∧ w.cells? 0 (a.add (i * P.cellsOf e)) (P.cellsOf e) = some cs') ∧ wf l[i] := by
        clear hmm hi hx hml
        have : ∀ n, n ≤ len → ∃ l : List α, l.length = n ∧ ∀ i (hi : i < l.length), (∃ cs', d.K w l[i] cs' ∧ w.cells? 0 (a.add (i * P.cellsOf e)) (P.cellsOf e) = some cs') ∧ wf l[i] := by
          intro n
          induction n with
          | zero => exact fun _ => ⟨[], rfl, fun i hi => absurd hi (Nat.not_lt_zero i)⟩
          | succ n ih =>
            intro hn
            obtain ⟨l, h1, h2⟩ := ih (by omega)
            obtain ⟨y, h3⟩ := each n (by omega)
            refine ⟨l ++ [y], by simp [h1], fun i hi => ?_⟩
            by_cases hil : i < l.length
            · rw [List.getElem_append_left hil]; exact h2 i hil
            · have hin : i = n := by simp at hi; omega
              subst hin
              subst h1
              simp only [List.getElem_append_right (Nat.le_refl _), Nat.sub_self, List.getElem_cons_zero]
              exact h3
        exact this len (Nat.le_refl _)
      subst hll
      refine ⟨l, ⟨some a, cap, rfl, hl, rfl, ?_, fun _ => ⟨a, rfl, fun j p hj => ?_⟩⟩, by omega, fun y hy => ?_⟩
      · unfold maxLen at hm; omega
      · obtain ⟨hjl, rfl⟩ := List.getElem?_eq_some_iff.1 hj
        obtain ⟨⟨cs', h1, h2⟩, _⟩ := hall j hjl
        obtain ⟨_, h3, h4⟩ := World.cells?_some h2
        refine ⟨cs', d.K_len h1, h1, fun i u hu => ?_⟩
        have hil := (List.getElem?_eq_some_iff.1 hu).1
        rw [← h.sz, ← Go.Deep.add_add, h4 i (by omega)]
        exact hu
      · obtain ⟨i, hil, rfl⟩ := List.getElem_of_mem hy
        exact (hall i hil).2⟩

/-- Fields that lie one behind the other from 'off' on. -/
structure OpF {α : Type} (P : Program) (off : Nat) (fs : List Field) (d : Kd α) (wf : α → Prop) : Prop where
  go : ∀ {H : Type} {enc : TypeId × Value → H} {w : World} {fuel : Nat} {cs : List Value}, cs.length = d.sz →
    (∀ (i : Nat) (f : Field), fs[i]? = some f → ∃ y, DataW.trod enc P w 0 (fun _ => true) true fuel f.type ((cs.drop (f.offset - off)).take (P.cellsOf f.type)) = some y) →
    (∀ (i : Nat) (f : Field), fs[i]? = some f → off ≤ f.offset) → ∃ a, d.K w a cs ∧ wf a

theorem opf_one {P : Program} {α : Type} {off : Nat} {f : Field} {d : Kd α} {wf : α → Prop} (ho : f.offset = off) (h : Op P f.type d wf) : OpF P off [f] d wf :=
  ⟨fun {H enc w fuel cs} hl hf _ => by
    obtain ⟨y, hy⟩ := hf 0 f rfl
    rw [ho, Nat.sub_self, List.drop_zero, h.sz, ← hl, List.take_length] at hy
    exact h.go hy⟩

theorem opf_cons {P : Program} {α β : Type} {off : Nat} {f : Field} {fs : List Field} {d : Kd α} {d' : Kd β} {wf : α → Prop} {wf' : β → Prop} (ho : f.offset = off) (h : Op P f.type d wf)
    (hge : ∀ g ∈ fs, off + d.sz ≤ g.offset) (h' : OpF P (off + d.sz) fs d' wf') : OpF P off (f :: fs) (Kd.pair d d') (fun x => wf x.1 ∧ wf' x.2) :=
  ⟨fun {H enc w fuel cs} hl hf _ => by
    have hl' : cs.length = d.sz + d'.sz := hl
    obtain ⟨y, hy⟩ := hf 0 f rfl
    rw [ho, Nat.sub_self, List.drop_zero, h.sz] at hy
    obtain ⟨a, ha, hwa⟩ := h.go hy
    obtain ⟨b, hb, hwb⟩ := h'.go (enc := enc) (w := w) (fuel := fuel) (cs := cs.drop d.sz) (by rw [List.length_drop]; omega) (fun i g hg => by
      obtain ⟨z, hz⟩ := hf (i + 1) g hg
      have hgo := hge g (List.mem_of_getElem? hg)
      rw [List.drop_drop, show d.sz + (g.offset - (off + d.sz)) = g.offset - off by omega]
      exact ⟨z, hz⟩) (fun i g hg => hge g (List.mem_of_getElem? hg))
    exact ⟨(a, b), ⟨_, _, (List.take_append_drop d.sz cs).symm, ha, hb⟩, hwa, hwb⟩⟩

theorem op_struct {P : Program} {α β : Type} {t : TypeId} {fs : Array Field} {d : Kd α} {wf : α → Prop} (ht : P.underlying t = some (.struct fs)) (hc : P.cellsOf t = d.sz) (h : OpF P 0 fs.toList d wf)
    (f : β → α) (g : α → β) (hfg : ∀ a, f (g a) = a) : Op P t (Kd.iso d f) (fun x => wf (f x)) :=
  ⟨hc, fun {H enc w fuel cs x} hx => by
    obtain ⟨xs, n, _, _, hl, hlen, hg⟩ := DataW.trod_struct ht hx
    obtain ⟨a, ha, hw⟩ := h.go (enc := enc) (w := w) (fuel := n) (cs := cs) (hl.trans hc) (fun i f hf => by
      have hf' : fs[i]? = some f := by simpa using hf
      have hil : i < fs.size := (Array.getElem?_eq_some_iff.1 hf').1
      refine ⟨xs[i]'(by omega), ?_⟩
      rw [Nat.sub_zero, hg i f hf', List.getElem?_eq_getElem (by omega)]) (fun _ _ _ => Nat.zero_le _)
    refine ⟨g a, ?_, ?_⟩
    · show d.K w (f (g a)) cs
      rw [hfg]; exact ha
    · show wf (f (g a))
      rw [hfg]; exact hw⟩

section
variable {H : Type} {enc : TypeId × Value → H} {P : Program} {W : World} {r : Reach} {b0 : Nat} {t : TypeId} {v : Value} {dat : DataW H} {ps : List MemPlace}

theorem arg_int {k : IntKind} (ht : P.underlying t = some (.int k)) (hv : Value.okWide P W r b0 t v) (h : DataW.Trod enc P W 0 (fun _ => true) true t v dat ps) : ∃ n, v = .int k n ∧ (Lit.int k n).wf = true := by
  obtain ⟨n, rfl⟩ := okWide_int ht hv
  obtain ⟨fuel, hf⟩ := h
  obtain ⟨m, he, _, hw⟩ := DataW.trod_int ht hf
  have : n = m := by simpa [Value.cells] using he
  subst this
  exact ⟨n, rfl, hw⟩
theorem arg_bool (ht : P.underlying t = some .bool) (hv : Value.okWide P W r b0 t v) : ∃ n, v = .bool n := okWide_bool ht hv
theorem arg_string (ht : P.underlying t = some .string) (hv : Value.okWide P W r b0 t v) (h : DataW.Trod enc P W 0 (fun _ => true) true t v dat ps) : ∃ s : ByteArray, v = .string s ∧ s.size ≤ maxLen := by
  obtain ⟨n, rfl⟩ := okWide_string ht hv
  obtain ⟨fuel, hf⟩ := h
  obtain ⟨m, he, _, hw⟩ := DataW.trod_string ht hf
  have : n = m := by simpa [Value.cells] using he
  subst this
  exact ⟨n, rfl, hw⟩
theorem arg_slice {α : Type} {e : TypeId} {d : Kd α} {wf : α → Prop} (ht : P.underlying t = some (.slice e)) (hc : P.cellsOf t = 1) (ho : Op P e d wf) (hv : Value.okWide P W r b0 t v) (h : DataW.Trod enc P W 0 (fun _ => true) true t v dat ps) :
    ∃ (A : Option Addr) (c : Nat) (l : List α), v = .slice A l.length c ∧ l.length ≤ c ∧ d.C W A l.length l ∧ l.length ≤ maxLen ∧ ∀ x ∈ l, wf x := by
  obtain ⟨a, len, cap, rfl⟩ := okWide_slice ht hv
  obtain ⟨fuel, hf⟩ := h
  obtain ⟨l, ⟨A, c, he, hl, hC⟩, hw⟩ := (op_slice ht hc ho).go hf
  have : a = A ∧ len = l.length ∧ cap = c := by simpa [Value.cells] using he
  obtain ⟨rfl, rfl, rfl⟩ := this
  exact ⟨a, cap, l, rfl, hl, hC, hw⟩
theorem arg_struct {α : Type} {fs : Array Field} {d : Kd α} {wf : α → Prop} (ht : P.underlying t = some (.struct fs)) (ho : Op P t d wf) (hv : Value.okWide P W r b0 t v) (h : DataW.Trod enc P W 0 (fun _ => true) true t v dat ps) :
    ∃ (cs : List Value) (x : α), v = .agg cs.toArray ∧ d.K W x cs ∧ wf x := by
  obtain ⟨cs, rfl, _⟩ := okWide_struct ht hv
  obtain ⟨fuel, hf⟩ := h
  obtain ⟨x, hK, hw⟩ := ho.go hf
  exact ⟨cs.toList, x, by simp, by simpa [Value.cells] using hK, hw⟩
end
end Go.Proofs.Ytofodhfijihibaa.Open
