/- The abstract machine is sound: append, copy, strings of bytes. Plain lemmas. No condition. -/
import Derived.Test.YtjbgdpfkmcibbaaGreatDoorSimD
namespace Go.Proofs.YtjbgdpfkmcibbaaGreatDoor.Sim
open Go.RowKit (Below)

theorem growBy_le (need : Nat) (hneed : 256 ≤ need) : ∀ (k c : Nat), c ≤ 2 * need → Builtin.growBy need k c ≤ 2 * need
  | 0, c, h => h
  | k + 1, c, h => by
    unfold Builtin.growBy
    split
    · exact h
    · exact growBy_le need hneed k _ (by omega)

theorem nextslicecap_le (need cap : Nat) (h : cap < need) : Builtin.nextslicecap need cap ≤ 2 * need := by
  unfold Builtin.nextslicecap
  split
  · omega
  · split
    · omega
    · exact growBy_le need (by omega) 4 cap (by omega)

section
variable {P : Program} {B : Nat} {w0 : World} {ι : Nat → Loc} {s : Store} {w : World} {α : Type} {r : α}

/-- The cells that are appended or copied. -/
theorem cellsOf_sound {es : Nat} {y : AV} {y' : Value} {f : Nat → List AV → Option α} (h : aCellsOf es y s f = some r) (hy : VR ι s w y y') (hW : WR B w0 ι s w) :
    ∃ m new ys, f m new = some r ∧ (∀ w1, (Builtin.lenOf y').run P w1 = .ok m w1) ∧ new.length = m * es ∧ VRs ι s w new ys ∧ (∀ z ∈ ys, z.oneCell' = true) ∧
      ∀ m', m' ≤ m → ∀ w1 : World, (∀ b, b < w.heap.size → w1.heap[b]? = w.heap[b]?) → (Builtin.firstCells es m' y').run P w1 = .ok (ys.take (m' * es)).toArray w1 := by
  unfold aCellsOf at h
  split at h
  · cases hy
    exact ⟨0, [], [], h, fun _ => rfl, by simp, VRs.nil _ _ _, fun z hz => by simp at hz, fun m' hm w1 _ => by simp [Builtin.firstCells]⟩
  · rename_i b
    cases hy
    split at h
    · rename_i he
      subst he
      have hys : VRs ι s w (b.data.toList.map fun c => AV.int .u8 c.toNat) (b.data.toList.map fun c => Value.int .u8 c.toNat) := by
        refine ⟨by simp, fun i x y hx hy => ?_⟩
        rw [List.getElem?_map] at hx hy
        cases hd : b.data.toList[i]? with
        | none => rw [hd] at hx; cases hx
        | some c =>
          rw [hd] at hx hy
          simp only [Option.map_some, Option.some.injEq] at hx hy
          subst hx; subst hy; exact .int _ _
      refine ⟨_, _, _, h, fun _ => rfl, by simp, hys, fun z hz => ?_, fun m' hm w1 _ => ?_⟩
      · obtain ⟨c, _, rfl⟩ := List.mem_map.1 hz; rfl
      · simp only [Builtin.firstCells, Sem.run_pure, Nat.mul_one]
        congr 1
        apply Array.ext'
        have hmin : min m' b.data.size = m' := by have : b.size = b.data.size := rfl; omega
        simp [ByteArray.data_extract]
    · cases h
  · rename_i l off n es' ep
    split at h
    · rename_i he
      subst he
      obtain ⟨xs, ro, hg, hep, h⟩ := row_of h
      cases hy with
      | sl hl he' ha hc =>
        split at h
        · rename_i hn
          obtain ⟨hsh, hadr0⟩ := ha (by rw [hg]; show _ + 1 = _ + 1; omega)
          obtain ⟨ys, h1, h2, h4, h3⟩ := cells_at hW hl hg off (n * es') hn hsh
          refine ⟨_, _, ys, h, fun _ => rfl, by rw [h2.1, h1], h2, h4, fun m' hm w1 hb => ?_⟩
          have hle : m' * es' ≤ n * es' := Nat.mul_le_mul_right _ hm
          have hlen : (ys.take (m' * es')).length = m' * es' := by rw [List.length_take, h1]; omega
          simp only [Builtin.firstCells]
          by_cases hm0 : m' = 0
          · subst hm0
            simp [loadCells, loadCellsFrom]
          obtain ⟨hadr, hab, _⟩ := hadr0 (by omega)
          have hlt : (ι l).b < w.heap.size := by rw [hadr] at hab; exact hab
          rw [hadr]
          have key := run_loadCells_list (P := P) w1 ⟨(ι l).b, (ι l).o + (off - (ι l).sh), none⟩ (ys.take (m' * es')) (fun j v hj => ?_)
          · rw [hlen] at key; exact key
          rw [List.getElem?_take] at hj
          split at hj
          · have := h3 j v hj
            rw [add_mk] at this ⊢
            simp only [World.cell?] at this ⊢
            rw [hb _ hlt]; exact this
          · cases hj
        · cases h
    · cases h
  · cases h

/-- What append asks of a type. -/
structure ElemOk (P : Program) (e : TypeId) (i : TypeInfo) (z : Value) : Prop where
  info : P.info? e = some i
  zero : i.zero = some z
  size : z.cells.size = i.size
  one : ∀ y ∈ z.cells.toList, y.oneCell' = true

theorem zeroCells_size (z : Array Value) (n : Nat) : (Builtin.zeroCells z n).size = n * z.size := by simp [Builtin.zeroCells]

/-- A row grows within its block. -/
theorem grow_in (hW : WR B w0 ι s w) {l : Nat} {xs new : List AV} {ys : List Value} (hl : l < s.next) (hg : s.get l = .cells xs false) (hsh : (ι l).sh ≤ xs.length) (hnew : VRs ι s w new ys) (hone : ∀ y ∈ ys, y.oneCell' = true) (hpos : 0 < new.length)
    (hroom : (ι l).o + (xs.length - (ι l).sh) + new.length ≤ bsz w (ι l).b) :
    ∃ w', (storeCells ⟨(ι l).b, (ι l).o + (xs.length - (ι l).sh), none⟩ ys).run P w = .ok () w' ∧ WR B w0 ι (s.set l (.cells (xs ++ new) false)) w' ∧ Later ι s w ι (s.set l (.cells (xs ++ new) false)) w' := by
  obtain ⟨c, ty, fz, h1, h0, h2, h3, h5, h4⟩ := cells_of hW hl hg (.inr rfl)
  obtain ⟨rfl, hB⟩ := h4 rfl
  have hlen := hnew.1
  have hbs : bsz w (ι l).b = c.size := by unfold bsz; rw [h1]
  rw [hbs] at hroom
  have hrun := run_storeCells_at P (ι l).b ((ι l).o + (xs.length - (ι l).sh)) ty ys 0 c w h1 (by omega) hone
  refine ⟨_, hrun, ?_⟩
  simp only [Nat.add_zero]
  generalize hc' : (c.toList.take ((ι l).o + (xs.length - (ι l).sh)) ++ ys ++ c.toList.drop ((ι l).o + (xs.length - (ι l).sh) + ys.length)).toArray = c'
  have hsz : c'.size = c.size := by rw [← hc']; simp; omega
  have hh := setRow_heap w (ι l).b c c' ty (0, 0) h1
  have hwr : (s.get l).wr = true := by rw [hg]; rfl
  have e : (c'.toList.drop (ι l).o).take ((xs ++ new).length - (ι l).sh) = (c.toList.drop (ι l).o).take (xs.length - (ι l).sh) ++ ys := by
    rw [written_at (n := (xs ++ new).length - (ι l).sh) hc'.symm (by simp; omega) (by simp; omega)]
    apply List.ext_getElem?
    intro i
    rw [putAllV_at _ _ _ (by simp; omega), List.getElem?_take]
    by_cases h6 : i < xs.length - (ι l).sh
    · rw [if_pos h6, if_pos (by simp; omega), List.getElem?_append_left (by simp; omega), List.getElem?_take, if_pos h6]
    · rw [if_neg h6, List.getElem?_append_right (by simp; omega)]
      have e2 : i - ((c.toList.drop (ι l).o).take (xs.length - (ι l).sh)).length = i - (xs.length - (ι l).sh) := by simp; omega
      rw [e2]
      by_cases h7 : i - (xs.length - (ι l).sh) < ys.length
      · rw [if_pos h7]
      · rw [if_neg h7, if_neg (by simp; omega), List.getElem?_eq_none (by omega)]
  have := hW.update hl hwr hB (.cells (xs ++ new) false) (ι l) (w' := w.setRow (ι l).b c') (by rw [hg]; simp [AObj.size]) (fun _ => rfl) rfl rfl rfl (by simp [World.setRow]) (fun b _ hb => setRow_other w _ c' b hb)
    (by unfold bsz; rw [hh, h1]; exact hsz) (.inl rfl) (fun k => .inr ⟨c', ty, (0, 0), hh, by simp; omega, by rw [hsz]; simp; omega, ?_, ?_, fun _ => ⟨rfl, hB⟩⟩)
  · rw [upd_self] at this; exact this
  · rw [e, List.drop_append_of_le_length hsh]
    exact (h3.later k).append (hnew.later k)
  · rw [e]
    intro y hy
    rcases List.mem_append.1 hy with hy | hy
    · exact h5 y hy
    · exact hone y hy

/-- A row goes on in a new block, from the place 'off' on. -/
theorem grow_out (hW : WR B w0 ι s w) {l off : Nat} {xs new : List AV} {os ys : List Value} (hl : l < s.next) (hg : s.get l = .cells xs false) (hoff : off ≤ xs.length) (hold : VRs ι s w (xs.drop off) os) (hold1 : ∀ y ∈ os, y.oneCell' = true) (hnew : VRs ι s w new ys) (hone : ∀ y ∈ ys, y.oneCell' = true) (hpos : 0 < new.length)
    (rest : List Value) (ty : TypeId) {w' : World} (hw : w'.heap = w.heap.push (.cells (os ++ ys ++ rest).toArray ty)) (h2 : w'.os = w.os) (h3 : w'.tape = w.tape) (h4 : w'.output = w.output) :
    ∃ ι', WR B w0 ι' (s.set l (.cells (xs ++ new) false)) w' ∧ Later ι s w ι' (s.set l (.cells (xs ++ new) false)) w' ∧ ι' l = ⟨w.heap.size, 0, off⟩ := by
  have hwr : (s.get l).wr = true := by rw [hg]; rfl
  obtain ⟨_, _, _, h1, _, _, _, _, h5⟩ := cells_of hW hl hg (.inr rfl)
  have hB := (h5 rfl).2
  have hl1 := hold.1
  have hl2 := hnew.1
  rw [List.length_drop] at hl1
  have e : (((os ++ ys ++ rest).toArray).toList.drop 0).take ((xs ++ new).length - off) = os ++ ys := by
    rw [List.drop_zero]
    show (os ++ ys ++ rest).take _ = _
    rw [List.take_append_of_le_length (by simp; omega), List.take_of_length_le (by simp; omega)]
  have hlt := hW.lt hl (by rw [hg]; simp [AObj.live])
  have := hW.update hl hwr hB (.cells (xs ++ new) false) ⟨w.heap.size, 0, off⟩ (w' := w') (by rw [hg]; simp [AObj.size]) (fun q => by rw [hg] at q; simp only [AObj.size, List.length_append] at q; omega) h2 h3 h4 (by rw [hw]; simp)
    (fun b hb _ => by rw [hw, Array.getElem?_push, if_neg (by omega)]) (bsz_same (by rw [hw, Array.getElem?_push, if_neg (by omega)])) (.inr (Nat.le_refl _))
    (fun k => .inr ⟨(os ++ ys ++ rest).toArray, ty, (0, 0), by rw [hw]; simp, by simp; omega, by simp; omega, ?_, ?_, fun _ => ⟨rfl, hW.hB⟩⟩)
  · exact ⟨_, this.1, this.2, by simp⟩
  · rw [e, List.drop_append_of_le_length hoff]
    exact (hold.later k).append (hnew.later k)
  · rw [e]
    intro y hy
    rcases List.mem_append.1 hy with hy | hy
    · exact hold1 y hy
    · exact hone y hy
end
end Go.Proofs.YtjbgdpfkmcibbaaGreatDoor.Sim
