/- The abstract machine is sound: memory: loads, stores, new rows, growth. Plain lemmas. No condition. -/
import Derived.Test.YtjbgdpfkmcibbaaGreatDoorSimC
import Derived.Laws.Entries
import Derived.Laws.NewFold
import Derived.ChangeKeysEq
import Derived.Laws.BytesString
import Derived.MapKept
namespace Go.Proofs.YtjbgdpfkmcibbaaGreatDoor.Sim
open Go.RowKit (Below)

section
variable {P : Program} {B : Nat} {w0 : World} {ι : Nat → Loc} {s : Store} {w : World} {α : Type} {r : α}

theorem row_of {l ep : Nat} {f : List AV → Option α} (h : aRow l ep s f = some r) : ∃ xs ro, s.get l = .cells xs ro ∧ xs.length = ep ∧ f xs = some r := by
  unfold aRow at h
  split at h
  · rename_i xs ro hg
    split at h
    · rename_i he; exact ⟨xs, ro, hg, he, h⟩
    · cases h
  · cases h

theorem own_of {l ep : Nat} {f : List AV → Option α} (h : aOwn l ep s f = some r) : ∃ xs, s.get l = .cells xs false ∧ xs.length = ep ∧ f xs = some r := by
  unfold aOwn at h
  split at h
  · rename_i xs hg
    split at h
    · rename_i he; exact ⟨xs, hg, he, h⟩
    · cases h
  · cases h

theorem cells_of (hW : WR B w0 ι s w) {l : Nat} {xs : List AV} {ro : Bool} (hl : l < s.next) (hg : s.get l = .cells xs ro) (hlv : 0 < xs.length ∨ ro = false) :
    ∃ (c : Array Value) (ty : TypeId) (fz : Nat × Nat), w.heap[(ι l).b]? = some (.cells c ty fz) ∧ (ι l).sh ≤ xs.length ∧ (ι l).o + (xs.length - (ι l).sh) ≤ c.size ∧ VRs ι s w (xs.drop (ι l).sh) ((c.toList.drop (ι l).o).take (xs.length - (ι l).sh)) ∧
      (∀ y ∈ (c.toList.drop (ι l).o).take (xs.length - (ι l).sh), y.oneCell' = true) ∧ (ro = false → fz = (0, 0) ∧ B ≤ (ι l).b) := by
  have := hW.obj l hl
  rw [hg] at this
  rcases this with ⟨h1, h2⟩ | this
  · subst h1; subst h2; simp at hlv
  · exact this

theorem add_mk (b o j : Nat) : (⟨b, o, none⟩ : Addr).add j = ⟨b, o + j, none⟩ := by unfold Addr.add; split <;> simp_all

/-- n cells from a place on. -/
theorem cells_at (hW : WR B w0 ι s w) {l : Nat} {xs : List AV} {ro : Bool} (hl : l < s.next) (hg : s.get l = .cells xs ro) (off n : Nat) (hn : off + n ≤ xs.length) (hsh : (ι l).sh ≤ off) :
    ∃ ys : List Value, ys.length = n ∧ VRs ι s w ((xs.drop off).take n) ys ∧ (∀ y ∈ ys, y.oneCell' = true) ∧ ∀ j v, ys[j]? = some v → w.cell? ((⟨(ι l).b, (ι l).o + (off - (ι l).sh), none⟩ : Addr).add j) = some v := by
  by_cases hz : n = 0
  · subst hz
    exact ⟨[], rfl, by simpa using VRs.nil ι s w, fun y hy => by simp at hy, fun j v hj => by simp at hj⟩
  obtain ⟨c, ty, fz, h1, h0, h2, h3, h5, _⟩ := cells_of hW hl hg (.inl (by omega))
  have h4 := (h3.drop (off - (ι l).sh)).take n
  rw [List.drop_drop, show (ι l).sh + (off - (ι l).sh) = off by omega] at h4
  refine ⟨_, ?_, h4, fun y hy => h5 y (List.mem_of_mem_drop (List.mem_of_mem_take hy)), fun j v hj => ?_⟩
  · rw [← h4.1, List.length_take, List.length_drop]; omega
  · have hjl := (List.getElem?_eq_some_iff.1 hj).1
    rw [← h4.1, List.length_take, List.length_drop] at hjl
    rw [List.getElem?_take, if_pos (by omega), List.getElem?_drop, List.getElem?_take, if_pos (by omega), List.getElem?_drop] at hj
    rw [add_mk]
    simp only [World.cell?, h1, Option.isSome_none, Bool.false_eq_true, if_false]
    rw [Array.getElem?_toList] at hj
    rw [← hj]; congr 1; omega

theorem cell_at (hW : WR B w0 ι s w) {l : Nat} {xs : List AV} {ro : Bool} (hl : l < s.next) (hg : s.get l = .cells xs ro) {i : Nat} {v : AV} (hv : xs[i]? = some v) (hsh : (ι l).sh ≤ i) :
    ∃ v', w.cell? ⟨(ι l).b, (ι l).o + (i - (ι l).sh), none⟩ = some v' ∧ VR ι s w v v' ∧ v'.oneCell' = true := by
  have hi := (List.getElem?_eq_some_iff.1 hv).1
  obtain ⟨ys, h1, h2, h3, h4⟩ := cells_at hW hl hg i 1 (by omega) hsh
  have hx : ((xs.drop i).take 1)[0]? = some v := by rw [List.getElem?_take, if_pos (by omega), List.getElem?_drop]; exact hv
  obtain ⟨y, hy, hr⟩ := h2.get hx
  have := h4 0 y hy
  rw [add_mk] at this
  exact ⟨y, this, hr, h3 y (List.mem_of_getElem? hy)⟩

theorem load1_sound {p : AV} {p' : Value} {f : AV → Option α} (h : aLoad1 p s f = some r) (hp : VR ι s w p p') (hW : WR B w0 ι s w) :
    ∃ a v v', p' = .pointer (some a) ∧ f v = some r ∧ w.cell? a = some v' ∧ VR ι s w v v' ∧ v'.oneCell' = true := by
  unfold aLoad1 at h
  split at h
  · rename_i l off ep
    obtain ⟨xs, ro, hg, he, h⟩ := row_of h
    cases hp with
    | ptr hl he' ha =>
      split at h
      · rename_i v hv
        obtain ⟨hsh, hadr⟩ := ha (by rw [hg]; show _ + 1 = _ + 1; omega)
        obtain ⟨v', h1, h2, h3⟩ := cell_at hW hl hg hv hsh
        refine ⟨_, v, v', rfl, h, ?_, h2, h3⟩
        rw [hadr]; exact h1
      · cases h
  · cases h

theorem loadN_sound {p : AV} {p' : Value} {n : Nat} {f : AV → Option α} (h : aLoadN n p s f = some r) (hp : VR ι s w p p') (hW : WR B w0 ι s w) :
    ∃ a vs ys, p' = .pointer (some a) ∧ f (.agg vs) = some r ∧ (loadCells a n).run P w = .ok ys.toArray w ∧ VRs ι s w vs ys ∧ ∀ y ∈ ys, y.oneCell' = true := by
  unfold aLoadN at h
  split at h
  · rename_i l off ep
    obtain ⟨xs, ro, hg, he, h⟩ := row_of h
    cases hp with
    | ptr hl he' ha =>
      split at h
      · rename_i hn
        obtain ⟨hsh, hadr⟩ := ha (by rw [hg]; show _ + 1 = _ + 1; omega)
        obtain ⟨ys, h1, h2, h4, h3⟩ := cells_at hW hl hg off n hn hsh
        refine ⟨_, _, ys, rfl, h, ?_, h2, h4⟩
        rw [hadr, ← h1]
        exact run_loadCells_list (P := P) w _ ys h3
      · cases h
  · cases h

theorem VRs.agg {vs : List AV} {ys : List Value} (h : VRs ι s w vs ys) (h1 : ∀ y ∈ ys, y.oneCell' = true) : VR ι s w (.agg vs) (.agg ys.toArray) :=
  .agg (by simp [h.1]) (fun i x y hx hy => h.2 i x y hx (by simpa using hy)) (by simpa using h1)
theorem VRs.tup {vs : List AV} {ys : List Value} (h : VRs ι s w vs ys) : VR ι s w (.tuple vs) (.tuple ys.toArray) :=
  .tuple (by simp [h.1]) (fun i x y hx hy => h.2 i x y hx (by simpa using hy))

/-- The cells of a value. -/
theorem aCells_sound {x : AV} {x' : Value} {f : List AV → Option α} (h : aCells x f = some r) (hx : VR ι s w x x') : ∃ cs, f cs = some r ∧ VRs ι s w cs x'.cells.toList ∧ ∀ y ∈ x'.cells.toList, y.oneCell' = true := by
  have one : ∀ v : AV, ∀ v' : Value, VR ι s w v v' → v'.cells = #[v'] → v'.oneCell' = true → VRs ι s w [v] v'.cells.toList ∧ ∀ y ∈ v'.cells.toList, y.oneCell' = true := fun v v' hv he h1 => by
    rw [he]; exact ⟨.cons hv (.nil _ _ _), by simpa using h1⟩
  unfold aCells at h
  split at h
  · rename_i vs
    cases hx with
    | agg h1 h2 h3 => exact ⟨vs, h, ⟨by simpa [Value.cells] using h1, fun i a b ha hb => h2 i a b ha (by simpa [Value.cells] using hb)⟩, by simpa [Value.cells] using h3⟩
  · cases h
  · cases h
  · rename_i v h1 h2 h3
    refine ⟨_, h, one _ _ hx ?_ ?_⟩
    · cases hx <;> first | rfl | (exact absurd rfl (h1 _)) | (exact absurd rfl (h2 _)) | exact absurd rfl h3
    · cases hx <;> first | rfl | (exact absurd rfl (h1 _)) | (exact absurd rfl (h2 _)) | exact absurd rfl h3

/-- A new row of these cells, and maybe more behind. -/
theorem push_cells (hW : WR B w0 ι s w) {cs : List AV} {c : Array Value} (ty : TypeId) (fz : Nat × Nat) (ro : Bool) {w' : World} (hw : w'.heap = w.heap.push (.cells c ty fz)) (h2 : w'.os = w.os) (h3 : w'.tape = w.tape) (h4 : w'.output = w.output)
    (hc : VRs ι s w cs (c.toList.take cs.length)) (h1 : ∀ y ∈ c.toList.take cs.length, y.oneCell' = true) (hro : ro = false → fz = (0, 0)) :
    ∃ ι', WR B w0 ι' (s.push (.cells cs ro)) w' ∧ Later ι s w ι' (s.push (.cells cs ro)) w' ∧ ι' s.next = ⟨w.heap.size, 0, 0⟩ := by
  have hlen : cs.length ≤ c.size := by have := hc.1; simp at this; omega
  obtain ⟨h5, h6⟩ := hW.push (.cells cs ro) ⟨w.heap.size, 0, 0⟩ h2 h3 h4 (by rw [hw]; simp) (fun b hb => by rw [hw, Array.getElem?_push, if_neg (by omega)]) (Nat.le_refl _)
    (fun k => .inr ⟨c, ty, fz, by rw [hw]; simp, Nat.zero_le _, by simpa using hlen, by simpa using hc.later k, by simpa using h1, fun e => ⟨hro e, hW.hB⟩⟩)
  exact ⟨_, h5, h6, by simp⟩

theorem new_ptr {ι' : Nat → Loc} {cs : List AV} {ro : Bool} {w' : World} (hi : ι' s.next = ⟨w.heap.size, 0, 0⟩) : VR ι' (s.push (.cells cs ro)) w' (.ptr s.next 0 cs.length) (.pointer (some ⟨w.heap.size, 0, none⟩)) :=
  .ptr (by simp [Store.push]) (by simp [Store.push, AObj.size]) (fun _ => by rw [hi]; exact ⟨Nat.le_refl _, rfl⟩)

theorem new_sl {ι' : Nat → Loc} {cs : List AV} {ro : Bool} {w' : World} {c : Array Value} {ty : TypeId} {fz : Nat × Nat} {n es ep cap : Nat} (hi : ι' s.next = ⟨w.heap.size, 0, 0⟩) (hw : w'.heap = w.heap.push (.cells c ty fz)) (hep : ep = cs.length) (hn : n ≤ cap) (hcap : cap * es ≤ c.size) (hfull : cs.length ≤ cap * es) :
    VR ι' (s.push (.cells cs ro)) w' (.sl s.next 0 n es ep) (.slice (some ⟨w.heap.size, 0, none⟩) n cap) := by
  refine .sl (by simp [Store.push]) (by simp [Store.push, AObj.size, hep]) (fun _ => ⟨by rw [hi]; exact Nat.le_refl _, fun _ => ⟨by simp [hi], by rw [hw]; simp, ?_⟩⟩) hn (by omega)
  have : bsz w' w.heap.size = c.size := by unfold bsz; rw [hw]; simp
  simp only [this]; omega

theorem putAll_length : ∀ (cs xs : List AV) (off : Nat), (putAll xs off cs).length = xs.length
  | [], xs, off => rfl
  | c :: cs, xs, off => by rw [putAll, putAll_length cs]; simp

def putAllV (xs : List Value) (off : Nat) : List Value → List Value
  | [] => xs
  | c :: cs => putAllV (xs.set off c) (off + 1) cs

theorem VRs.putAll : ∀ {cs : List AV} {ys : List Value} {xs : List AV} {zs : List Value} (off : Nat), VRs ι s w xs zs → VRs ι s w cs ys → VRs ι s w (Sim.putAll xs off cs) (putAllV zs off ys)
  | [], [], xs, zs, off, h, _ => h
  | [], y :: ys, _, _, _, _, k => by have := k.1; simp at this
  | c :: cs, [], _, _, _, _, k => by have := k.1; simp at this
  | c :: cs, y :: ys, xs, zs, off, h, k => VRs.putAll (off + 1) (h.set off (k.2 0 c y rfl rfl)) ⟨by have := k.1; simpa using this, fun i a b ha hb => k.2 (i + 1) a b (by simpa using ha) (by simpa using hb)⟩

theorem three_at {β : Type} (a b c : List β) (i : Nat) : (a ++ b ++ c)[i]? = if i < a.length then a[i]? else if i - a.length < b.length then b[i - a.length]? else c[i - a.length - b.length]? := by
  rw [List.append_assoc]
  by_cases h : i < a.length
  · rw [List.getElem?_append_left h, if_pos h]
  · rw [List.getElem?_append_right (by omega), if_neg h]
    by_cases h2 : i - a.length < b.length
    · rw [List.getElem?_append_left h2, if_pos h2]
    · rw [List.getElem?_append_right (by omega), if_neg h2]

theorem putAllV_at : ∀ (ys zs : List Value) (off : Nat), off + ys.length ≤ zs.length → ∀ i : Nat, (putAllV zs off ys)[i]? = if i < off then zs[i]? else if i - off < ys.length then ys[i - off]? else zs[i]?
  | [], zs, off, _, i => by simp [putAllV]
  | y :: ys, zs, off, h, i => by
    simp only [List.length_cons] at h
    rw [putAllV, putAllV_at ys _ _ (by simp; omega) i, List.getElem?_set]
    by_cases h1 : i < off
    · rw [if_pos (by omega), if_neg (by omega), if_pos h1]
    · rw [if_neg h1]
      by_cases h2 : i = off
      · subst h2
        rw [if_pos (by omega), if_pos rfl, if_pos (by omega), if_pos (by simp), Nat.sub_self]
        rfl
      · rw [if_neg (by omega)]
        by_cases h3 : i - (off + 1) < ys.length
        · rw [if_pos h3, if_pos (by simp; omega), show i - off = (i - (off + 1)) + 1 by omega, List.getElem?_cons_succ]
        · rw [if_neg h3, if_neg (by omega), if_neg (by simp; omega)]

theorem one_of {x : AV} {y : Value} (h : VR ι s w x y) (hx : x.one = true) : y.oneCell' = true := by
  cases h <;> first | rfl | simp [AV.one] at hx

theorem ones_of {xs : List AV} {ys : List Value} (h : VRs ι s w xs ys) (hx : xs.all AV.one = true) : ∀ y ∈ ys, y.oneCell' = true := by
  intro y hy
  obtain ⟨i, hi, rfl⟩ := List.getElem_of_mem hy
  have hi' : i < xs.length := by rw [h.1]; exact hi
  exact one_of (h.2 i xs[i] ys[i] (List.getElem?_eq_getElem hi') (List.getElem?_eq_getElem hi)) (List.all_eq_true.1 hx _ (List.getElem_mem hi'))

theorem upd_self (l : Nat) : (fun j => if j = l then ι l else ι j) = ι := by funext j; split <;> simp_all

theorem setRow_other (w : World) (g : Nat) (c : Array Value) (b : Nat) (hb : b ≠ g) : (w.setRow g c).heap[b]? = w.heap[b]? := by
  simp only [World.setRow, Array.getElem?_modify]; rw [if_neg (fun e => hb e.symm)]

/-- What stands in a row behind cells were written. -/
theorem written_at {c c' : Array Value} {ys : List Value} {base n o : Nat} (hc' : c' = (c.toList.take (base + o) ++ ys ++ c.toList.drop (base + o + ys.length)).toArray) (hle : o + ys.length ≤ n) (hn : base + n ≤ c.size) :
    (c'.toList.drop base).take n = putAllV ((c.toList.drop base).take n) o ys := by
  apply List.ext_getElem?
  intro i
  have la : (c.toList.take (base + o)).length = base + o := by simp; omega
  have lb : o + ys.length ≤ ((c.toList.drop base).take n).length := by simp; omega
  rw [putAllV_at _ _ _ lb, hc', List.getElem?_take, List.getElem?_take]
  by_cases hi : i < n
  · rw [if_pos hi, if_pos hi, List.getElem?_drop, List.getElem?_drop]
    show (List.take (base + o) c.toList ++ ys ++ List.drop (base + o + ys.length) c.toList)[base + i]? = _
    rw [three_at, la]
    by_cases i1 : i < o
    · rw [if_pos (by omega), if_pos i1, List.getElem?_take, if_pos (by omega)]
    · rw [if_neg (by omega), if_neg i1, show base + i - (base + o) = i - o by omega]
      by_cases i2 : i - o < ys.length
      · rw [if_pos i2, if_pos i2]
      · rw [if_neg i2, if_neg i2, List.getElem?_drop]
        congr 1; omega
  · rw [if_neg hi, if_neg hi]
    split
    · rfl
    · rw [if_neg (by omega)]

theorem putAll_at : ∀ (cs xs : List AV) (off : Nat), off + cs.length ≤ xs.length → ∀ i : Nat, (putAll xs off cs)[i]? = if i < off then xs[i]? else if i - off < cs.length then cs[i - off]? else xs[i]?
  | [], zs, off, _, i => by simp [putAll]
  | y :: ys, zs, off, h, i => by
    simp only [List.length_cons] at h
    rw [putAll, putAll_at ys _ _ (by simp; omega) i, List.getElem?_set]
    by_cases h1 : i < off
    · rw [if_pos (by omega), if_neg (by omega), if_pos h1]
    · rw [if_neg h1]
      by_cases h2 : i = off
      · subst h2
        rw [if_pos (by omega), if_pos rfl, if_pos (by omega), if_pos (by simp), Nat.sub_self]
        rfl
      · rw [if_neg (by omega)]
        by_cases h3 : i - (off + 1) < ys.length
        · rw [if_pos h3, if_pos (by simp; omega), show i - off = (i - (off + 1)) + 1 by omega, List.getElem?_cons_succ]
        · rw [if_neg h3, if_neg (by omega), if_neg (by simp; omega)]

theorem drop_putAll (xs cs : List AV) (sh off : Nat) (hsh : sh ≤ off) (h : off + cs.length ≤ xs.length) : (putAll xs off cs).drop sh = putAll (xs.drop sh) (off - sh) cs := by
  apply List.ext_getElem?
  intro i
  rw [List.getElem?_drop, putAll_at _ _ _ h, putAll_at _ _ _ (by simp; omega), List.getElem?_drop]
  by_cases h1 : i < off - sh
  · rw [if_pos (by omega), if_pos h1]
  · rw [if_neg (by omega), if_neg h1, show sh + i - off = i - (off - sh) by omega]

theorem mem_putAllV : ∀ (ys zs : List Value) (off : Nat) (y : Value), y ∈ putAllV zs off ys → y ∈ ys ∨ y ∈ zs
  | [], zs, off, y, h => .inr h
  | c :: cs, zs, off, y, h => by
    rcases mem_putAllV cs _ _ y h with h | h
    · exact .inl (by simp [h])
    · rcases List.mem_or_eq_of_mem_set h with h | h
      · exact .inr h
      · exact .inl (by simp [h])

/-- Cells of a row that may be written are written. -/
theorem set_cells (hW : WR B w0 ι s w) {l : Nat} {xs cs : List AV} {ys : List Value} (hl : l < s.next) (hg : s.get l = .cells xs false) (off : Nat) (hsh : (ι l).sh ≤ off) (hoff : off + cs.length ≤ xs.length) (hcs : VRs ι s w cs ys) (hone : ∀ y ∈ ys, y.oneCell' = true) :
    ∃ w', (storeCells ⟨(ι l).b, (ι l).o + (off - (ι l).sh), none⟩ ys).run P w = .ok () w' ∧ WR B w0 ι (s.set l (.cells (putAll xs off cs) false)) w' ∧ Later ι s w ι (s.set l (.cells (putAll xs off cs) false)) w' := by
  obtain ⟨c, ty, fz, h1, h0, h2, h3, h5, h4⟩ := cells_of hW hl hg (.inr rfl)
  obtain ⟨rfl, hB⟩ := h4 rfl
  have hlen := hcs.1
  have hrun := run_storeCells_at P (ι l).b ((ι l).o + (off - (ι l).sh)) ty ys 0 c w h1 (by omega) hone
  refine ⟨_, hrun, ?_⟩
  simp only [Nat.add_zero]
  generalize hc' : (c.toList.take ((ι l).o + (off - (ι l).sh)) ++ ys ++ c.toList.drop ((ι l).o + (off - (ι l).sh) + ys.length)).toArray = c'
  have hsz : c'.size = c.size := by rw [← hc']; simp; omega
  have hh := setRow_heap w (ι l).b c c' ty (0, 0) h1
  have hwr : (s.get l).wr = true := by rw [hg]; rfl
  have hput := VRs.putAll (off - (ι l).sh) h3 hcs
  rw [← drop_putAll xs cs (ι l).sh off hsh hoff] at hput
  have e := written_at (n := xs.length - (ι l).sh) hc'.symm (by omega) h2
  have := hW.update hl hwr hB (.cells (putAll xs off cs) false) (ι l) (w' := w.setRow (ι l).b c') (by rw [hg]; simp [AObj.size, putAll_length]) (fun _ => rfl) rfl rfl rfl (by simp [World.setRow]) (fun b _ hb => setRow_other w _ c' b hb)
    (by unfold bsz; rw [hh, h1]; exact hsz) (.inl rfl) (fun k => .inr ⟨c', ty, (0, 0), hh, by rw [putAll_length]; exact h0, by rw [putAll_length, hsz]; exact h2, ?_, ?_, fun _ => ⟨rfl, hB⟩⟩)
  · rw [upd_self] at this; exact this
  · rw [putAll_length, e]
    exact hput.later k
  · rw [putAll_length, e]
    intro y hy
    rcases mem_putAllV _ _ _ y hy with hy | hy
    · exact hone y hy
    · exact h5 y hy
end
end Go.Proofs.YtjbgdpfkmcibbaaGreatDoor.Sim
