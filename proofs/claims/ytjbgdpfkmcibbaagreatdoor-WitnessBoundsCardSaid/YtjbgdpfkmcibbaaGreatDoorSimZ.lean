/- The abstract machine is sound: regions whose order is drawn, in which new rows are made without an order. No condition. -/
import Derived.Test.YtjbgdpfkmcibbaaGreatDoorSimY
namespace Go.Proofs.YtjbgdpfkmcibbaaGreatDoor.Sim
open Go.RowKit (Below)
set_option linter.unusedSimpArgs false
set_option linter.unusedVariables false
section
variable {P : Program} {call : CallA} {B : Nat} {w0 : World} {ι : Nat → Loc} {s : Store} {w : World} {α : Type} {r : α} {nt : Nat} {ops : Array Oper} {n0 : Nat}

/-- A new row at an id that was kept for it. -/
theorem WR.fill {w' : World} (h : WR B w0 ι s w) {q : Nat} (hq : q < s.next) (hz : s.get q = .none) (o : AObj) (p : Loc) (ho0 : 0 < o.size) (h2 : w'.os = w.os) (h3 : w'.tape = w.tape) (h4 : w'.output = w.output)
    (hs : w.heap.size ≤ w'.heap.size) (hb : ∀ b, b < w.heap.size → w'.heap[b]? = w.heap[b]?) (hp : w.heap.size ≤ p.b)
    (ho : Later ι s w (fun j => if j = q then p else ι j) (s.set q o) w' → OR B (fun j => if j = q then p else ι j) (s.set q o) w' o p) :
    WR B w0 (fun j => if j = q then p else ι j) (s.set q o) w' ∧ Later ι s w (fun j => if j = q then p else ι j) (s.set q o) w' := by
  have g : ∀ l, l ≠ q → (s.set q o).get l = s.get l := fun l hl => by simp only [Store.set]; rw [if_neg hl]
  have gq : (s.set q o).get q = o := by simp [Store.set]
  have k : Later ι s w (fun j => if j = q then p else ι j) (s.set q o) w' := by
    refine ⟨Nat.le_refl _, fun l hl => ?_, fun l hl e => ?_, fun b hb' => bsz_same (hb b hb'), hs⟩
    · by_cases e : l = q
      · subst e; rw [hz]; exact Nat.zero_le _
      · rw [g l e]; exact Nat.le_refl _
    · by_cases e' : l = q
      · subst e'; rw [gq, hz] at e; have e2 : o.size = 0 := e; omega
      · simp only [if_neg e']
  refine ⟨⟨⟨h2.trans h.bel.os, h3.trans h.bel.tape, h4.trans h.bel.output, Nat.le_trans h.bel.size hs, fun b hb' => (hb b (Nat.lt_of_lt_of_le hb' h.hB)).trans (h.bel.block b hb')⟩, Nat.le_trans h.hB hs, fun l hl => ?_, fun l l' hl hl' hne hw hn => ?_, fun g => (h.glob g).later k⟩, k⟩
  · by_cases e : l = q
    · subst e
      simp only [if_pos]
      rw [gq]; exact ho k
    · rw [g l e]
      simp only [if_neg e]
      exact (h.obj l hl).later k (fun hn => hb _ (h.lt hl hn))
  · by_cases e : l = q
    · have e' : l' ≠ q := fun z => hne (e.trans z.symm)
      rw [g l' e'] at hn
      have := h.lt hl' hn
      simp only [if_pos e, if_neg e']
      omega
    · rw [g l e] at hw
      have hwl := AObj.live_wr hw
      by_cases e' : l' = q
      · have := h.lt hl hwl
        simp only [if_neg e, if_pos e']
        omega
      · rw [g l' e'] at hn
        simp only [if_neg e, if_neg e']
        exact h.sep l l' hl hl' hne hw hn

theorem fill_cells (hW : WR B w0 ι s w) {q : Nat} (hq : q < s.next) (hz : s.get q = .none) {cs : List AV} {c : Array Value} (ty : TypeId) (fz : Nat × Nat) (ro : Bool) {w' : World} (hw : w'.heap = w.heap.push (.cells c ty fz)) (h2 : w'.os = w.os) (h3 : w'.tape = w.tape) (h4 : w'.output = w.output)
    (hc : VRs ι s w cs (c.toList.take cs.length)) (h1 : ∀ y ∈ c.toList.take cs.length, y.oneCell' = true) (hro : ro = false → fz = (0, 0)) :
    ∃ ι', WR B w0 ι' (s.set q (.cells cs ro)) w' ∧ Later ι s w ι' (s.set q (.cells cs ro)) w' ∧ ι' q = ⟨w.heap.size, 0, 0⟩ := by
  have hlen : cs.length ≤ c.size := by have := hc.1; simp at this; omega
  obtain ⟨h5, h6⟩ := hW.fill hq hz (.cells cs ro) ⟨w.heap.size, 0, 0⟩ (Nat.succ_pos _) h2 h3 h4 (by rw [hw]; simp) (fun b hb => by rw [hw, Array.getElem?_push, if_neg (by omega)]) (Nat.le_refl _)
    (fun k => .inr ⟨c, ty, fz, by rw [hw]; simp, Nat.zero_le _, by simpa using hlen, by simpa using hc.later k, by simpa using h1, fun e => ⟨hro e, hW.hB⟩⟩)
  exact ⟨_, h5, h6, by simp⟩

theorem wp_value {o : Oper} {a : Act} {v' : Value} {w' : World} {K : Act → World → Prop} {Q : Exit → Act → World → Prop} (h : (execOp a.eval o).run P w = .ok (.value v') w') (hK : K (a.put o.dst v') w') : o.wp P a w K Q := by
  unfold Oper.wp
  rw [h]
  exact hK

/-- An operation that makes a new row: where it lies plays no part. -/
theorem alloc_run {o : Oper} (ha : opAlloc o.op = true) {fr : Fr} {q : Nat} {g : Nat → AObj} {v : AV} {s1 : Store} (h : aop P call (evalA fr) o ⟨q, g⟩ pairK = some (v, s1)) :
    ∃ ob : AObj, (∀ l, s1.get l = if l = q then ob else g l) ∧ ∀ {B : Nat} {w0 : World} {nt : Nat} {ι : Nat → Loc} {s : Store} {w : World} {a : Act}, FR nt ι s w fr a → WR B w0 ι s w → q < s.next → s.get q = .none → ∀ {K : Act → World → Prop} {Q : Exit → Act → World → Prop},
      (∀ v' w' ι', VR ι' (s.set q ob) w' v v' → WR B w0 ι' (s.set q ob) w' → Later ι s w ι' (s.set q ob) w' → K (a.put o.dst v') w') → o.wp P a w K Q := by
  cases hop : o.op <;> rw [hop] at ha <;> simp only [opAlloc, Bool.false_eq_true] at ha
  case alloc t =>
    unfold aop at h
    rw [hop] at h
    simp only at h
    split at h
    · rename_i zs hz
      unfold aNew pairK at h
      obtain ⟨rfl, rfl⟩ := Prod.mk.inj (Option.some.inj h)
      refine ⟨.cells zs false, fun l => rfl, fun {B w0 nt ι s w a} hF hW hq hn {K Q} hK => ?_⟩
      obtain ⟨i, z, hi, hzz, rfl, hone⟩ := zeros_of hz
      have e : z.cells.toList.take (z.cells.toList.map ofVal).length = z.cells.toList := List.take_of_length_le (by simp)
      obtain ⟨ι', h5, h6, h7⟩ := fill_cells hW hq hn (cs := z.cells.toList.map ofVal) (c := z.cells) t (0, 0) false (w' := w.alloc (.cells z.cells t)) rfl rfl rfl rfl (by rw [e]; exact vrs_ofVal ι s w _) (by rw [e]; exact hone) (fun _ => rfl)
      refine wp_value (v' := .pointer (some ⟨w.heap.size, 0, none⟩)) (w' := w.alloc (.cells z.cells t)) ?_ (hK _ _ ι' ?_ h5 h6)
      · unfold execOp
        simp only [hop]
        have hr : (newRow t z.cells >>= fun a => pure (Value.pointer (some a))).run P w = .ok (.pointer (some ⟨w.heap.size, 0, none⟩)) (w.alloc (.cells z.cells t)) := by simp [newRow]
        have h2 : ((newRow t z.cells >>= fun a => pure (Value.pointer (some a))) >>= fun a => (pure (Next.value a) : Sem Next)).run P w = .ok (.value (.pointer (some ⟨w.heap.size, 0, none⟩))) (w.alloc (.cells z.cells t)) := by rw [Sem.run_bind, hr]; rfl
        rw [Sem.run_bind, Instr.alloc, Sem.run_bind, run_zero hi hzz]
        rw [Sem.run_bind] at h2
        exact h2
      · exact .ptr hq (by simp [Store.set, AObj.size]) (fun _ => by rw [h7]; exact ⟨Nat.le_refl _, rfl⟩)
    · cases h
  case makeMap t n =>
    cases n with
    | some n => simp at ha
    | none =>
      unfold aop at h
      rw [hop] at h
      simp only at h
      unfold pairK at h
      obtain ⟨rfl, rfl⟩ := Prod.mk.inj (Option.some.inj h)
      refine ⟨.map [] ([], 0), fun l => rfl, fun {B w0 nt ι s w a} hF hW hq hn {K Q} hK => ?_⟩
      obtain ⟨h5, h6⟩ := hW.fill hq hn (.map [] ([], 0)) ⟨w.heap.size, 0, 0⟩ (w' := { w with heap := w.heap.push (.map #[] 0) }) (Nat.succ_pos _) rfl rfl rfl (by simp) (fun b hb => by simp only [Array.getElem?_push, if_neg (show ¬ b = w.heap.size by omega)]) (Nat.le_refl _)
        (fun _ => ⟨#[], 0, by simp, hW.hB, rfl, fun i k v hi => by simp at hi, rfl⟩)
      refine wp_value (v' := .map (some w.heap.size)) (w' := { w with heap := w.heap.push (.map #[] 0) }) ?_ (hK _ _ _ ?_ h5 h6)
      · unfold execOp
        simp only [hop]
        simp [Instr.makeMap]
      · exact .map hq (by simp [Store.set, AObj.size]) (fun _ => by simp)
  case buildSlice t n ps =>
    unfold aop at h
    rw [hop] at h
    simp only at h
    split at h
    · rename_i e he
      have hu := elem_of he
      split at h
      · rename_i zs c hz hc
        split at h
        · rename_i hn0
          rw [aBuild_nat] at h
          obtain ⟨cs, h1, h⟩ := Option.bind_eq_some_iff.1 h
          unfold pairK at h
          obtain ⟨rfl, rfl⟩ := Prod.mk.inj (Option.some.inj h)
          refine ⟨.cells cs false, fun l => rfl, fun {B w0 nt ι s w a} hF hW hq hn {K Q} hK => ?_⟩
          obtain ⟨cs', cc, k1, k2, k3, k4, k5, k6⟩ := buildSlice_core (P := P) hu hz hc hn0 h1 (hF.eval hW)
          obtain rfl := Option.some.inj k1
          obtain ⟨ι', h5, h6, h7⟩ := fill_cells hW hq hn (cs := cs') (c := cc) e (0, 0) false (w' := w.alloc (.cells cc e)) rfl rfl rfl rfl (by rw [List.take_of_length_le (by rw [k4.1]; exact Nat.le_refl _)]; exact k4) (by rw [List.take_of_length_le (by rw [k4.1]; exact Nat.le_refl _)]; exact k5) (fun _ => rfl)
          have hheap : (w.alloc (.cells cc e)).heap = w.heap.push (.cells cc e (0, 0)) := rfl
          refine wp_value (v' := .slice (some ⟨w.heap.size, 0, none⟩) n n) (w' := w.alloc (.cells cc e)) ?_ (hK _ _ ι' ?_ h5 h6)
          · unfold execOp
            simp only [hop]
            rw [Sem.run_bind, k6]
            rfl
          · refine .sl hq (by simp only [Store.set, if_pos, AObj.size, k2]; exact Nat.le_refl _) (fun _ => ⟨by rw [h7]; exact Nat.le_refl _, fun _ => ⟨by simp [h7], by rw [hheap]; simp, ?_⟩⟩) (Nat.le_refl _) (by omega)
            have : bsz (w.alloc (.cells cc e)) w.heap.size = cc.size := by unfold bsz; rw [hheap]; simp
            simp only [this, k3]; omega
        · cases h
      · cases h
    · cases h
  case makeSlice t n c =>
    unfold aop at h
    rw [hop] at h
    simp only at h
    split at h
    · rename_i e he
      have hu := elem_of he
      split at h
      · rename_i zs i hz hi
        split at h
        · rename_i hl
          unfold aMakeSlice at h
          split at h
          · rename_i a b hna hcb
            split at h
            · rename_i hab
              unfold pairK at h
              obtain ⟨rfl, rfl⟩ := Prod.mk.inj (Option.some.inj h)
              refine ⟨.cells (List.replicate a.toNat zs).flatten false, fun l => rfl, fun {B w0 nt ι s w ac} hF hW hq hn {K Q} hK => ?_⟩
              obtain ⟨h0, h1, h2, h3⟩ := hab
              obtain ⟨i', z, hi', hzz, rfl, hone⟩ := zeros_of hz
              obtain rfl : i = i' := Option.some.inj (hi.symm.trans hi')
              have hzl : z.cells.toList.length = i.size := by simpa using hl
              have hrun := run_make (P := P) w t e i z hu hi hzz .i64 .i64 a b h0 h1 (by rw [Int.mul_comm]; omega) h2
              have hzr : VRs ι s w (List.replicate a.toNat (z.cells.toList.map ofVal)).flatten (List.replicate a.toNat z.cells.toList).flatten := (vrs_ofVal ι s w z.cells.toList).replicate _
              have hlen : (List.replicate a.toNat (z.cells.toList.map ofVal)).flatten.length = a.toNat * i.size := by simp at hzl; simp [hzl]
              have htk : (madeCells z.cells (b.toNat * i.size)).toList.take (a.toNat * i.size) = (List.replicate a.toNat z.cells.toList).flatten := by
                by_cases hp : 0 < z.cells.toList.length
                · have := madeCells_take (zs := z.cells.toList) (n := a.toNat) (m := b.toNat) (by omega) hp
                  rw [hzl] at this
                  simpa using this
                · have hq : z.cells.toList = [] := List.length_eq_zero_iff.1 (by omega)
                  have : i.size = 0 := by rw [← hzl, hq]; rfl
                  rw [hq, this]; simp
              obtain ⟨ι', h5, h6, h7⟩ := fill_cells hW hq hn (cs := (List.replicate a.toNat (z.cells.toList.map ofVal)).flatten) (c := madeCells z.cells (b.toNat * i.size)) e (0, 0) false
                (w' := w.alloc (.cells (madeCells z.cells (b.toNat * i.size)) e)) rfl rfl rfl rfl (by rw [hlen, htk]; exact hzr) (by
                  rw [hlen, htk]
                  intro y hy
                  obtain ⟨l, hl1, hl2⟩ := List.mem_flatten.1 hy
                  rw [(List.mem_replicate.1 hl1).2] at hl2
                  exact hone y hl2) (fun _ => rfl)
              have vn := hF.eval hW n
              have vc := hF.eval hW c
              rw [hna] at vn
              rw [hcb] at vc
              have hheap : (w.alloc (.cells (madeCells z.cells (b.toNat * i.size)) e)).heap = w.heap.push (.cells (madeCells z.cells (b.toNat * i.size)) e (0, 0)) := rfl
              generalize hn' : ac.eval n = n' at vn
              generalize hc' : ac.eval c = c' at vc
              cases vn; cases vc
              refine wp_value (v' := .slice (some ⟨w.heap.size, 0, none⟩) a.toNat b.toNat) (w' := w.alloc (.cells (madeCells z.cells (b.toNat * i.size)) e)) ?_ (hK _ _ ι' ?_ h5 h6)
              · unfold execOp
                simp only [hop, hn', hc']
                rw [Sem.run_bind, hrun]
                rfl
              · refine .sl hq (by simp only [Store.set, if_pos, AObj.size, hlen]; exact Nat.le_refl _) (fun _ => ⟨by rw [h7]; exact Nat.le_refl _, fun _ => ⟨by simp [h7], by rw [hheap]; simp, ?_⟩⟩) (by omega) (by rw [Nat.zero_add]; exact Nat.mul_le_mul_right _ (by omega))
                have : bsz (w.alloc (.cells (madeCells z.cells (b.toNat * i.size)) e)) w.heap.size = (madeCells z.cells (b.toNat * i.size)).size := by unfold bsz; rw [hheap]; simp
                simp only [this, size_madeCells]; omega
            · cases h
          · cases h
        · cases h
      · cases h
    · cases h
end
end Go.Proofs.YtjbgdpfkmcibbaaGreatDoor.Sim
