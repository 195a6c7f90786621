/- The abstract machine is sound: append and copy. Plain lemmas. No condition. -/
import Derived.Test.YtjbgdpfkmcibbaaGreatDoorSimE
namespace Go.Proofs.YtjbgdpfkmcibbaaGreatDoor.Sim
open Go.RowKit (Below)
section
variable {P : Program} {B : Nat} {w0 : World} {ι : Nat → Loc} {s : Store} {w : World} {α : Type} {r : α}

theorem append_fit_none {t u e ty : TypeId} {i : TypeInfo} {z : Value} (ht : P.underlying t = some (.slice e)) (hu : (∃ e', P.underlying u = some (.slice e')) ∨ P.underlying u = some .string) (he : ElemOk P e i z)
    (n c m : Nat) (y' : Value) (new : Array Value) (hlen : ∀ w1, (Builtin.lenOf y').run P w1 = .ok m w1) (hfit : n + m ≤ c) (hnew : (Builtin.firstCells i.size m y').run P w = .ok new w) :
    (Builtin.append_ #[t, u] ty #[.slice none n c, y']).run P w = .ok (.slice none (n + m) c) w := by
  rcases hu with ⟨e', hu⟩ | hu <;>
  simp [Builtin.append_, run_underlying ht, run_underlying hu, sizeOf, Go.run_typeInfo _ he.info, hlen, hfit, hnew]

theorem append_fit {t u e ty : TypeId} {i : TypeInfo} {z : Value} (ht : P.underlying t = some (.slice e)) (hu : (∃ e', P.underlying u = some (.slice e')) ∨ P.underlying u = some .string) (he : ElemOk P e i z)
    (a : Addr) (n c m : Nat) (y' : Value) (new : Array Value) (w' : World) (hlen : ∀ w1, (Builtin.lenOf y').run P w1 = .ok m w1) (hfit : n + m ≤ c) (hnew : (Builtin.firstCells i.size m y').run P w = .ok new w)
    (hst : (storeCells (a.add (n * i.size)) new.toList).run P w = .ok () w') :
    (Builtin.append_ #[t, u] ty #[.slice (some a) n c, y']).run P w = .ok (.slice (some a) (n + m) c) w' := by
  rcases hu with ⟨e', hu⟩ | hu <;>
  simp [Builtin.append_, run_underlying ht, run_underlying hu, sizeOf, Go.run_typeInfo _ he.info, hlen, hfit, hnew, hst]

theorem append_out {t u e ty : TypeId} {i : TypeInfo} {z : Value} (ht : P.underlying t = some (.slice e)) (hu : (∃ e', P.underlying u = some (.slice e')) ∨ P.underlying u = some .string) (he : ElemOk P e i z)
    (base : Option Addr) (n c m : Nat) (y' : Value) (old new : Array Value) (hlen : ∀ w1, (Builtin.lenOf y').run P w1 = .ok m w1) (hfit : ¬ n + m ≤ c) (hb : (n + m) * i.bytes ≤ 140737488355328) (hb0 : 0 < i.bytes)
    (hold : (Builtin.firstCells i.size n (.slice base n c)).run P w.drew = .ok old w.drew) (hnew : (Builtin.firstCells i.size m y').run P w.drew = .ok new w.drew) :
    ∃ cap, n + m ≤ cap ∧ (Builtin.append_ #[t, u] ty #[.slice base n c, y']).run P w =
      .ok (.slice (some ⟨w.heap.size, 0, none⟩) (n + m) cap) (w.drew.alloc (.cells (old ++ new ++ Builtin.zeroCells z.cells (cap - (n + m))) e)) := by
  refine ⟨(Question.appendCap (n + m) c e).cut (w.tape w.drawn (.appendCap (n + m) c e)), by simp [Question.cut], ?_⟩
  have h1 : ¬ (9223372036854775807 < (n : Int) + (m : Int) ∧ i.bytes = 0) := by omega
  have h2 : ¬ 281474976710656 < Builtin.nextslicecap (n + m) c * i.bytes := by
    have := Nat.mul_le_mul_right i.bytes (nextslicecap_le (n + m) c (by omega))
    rw [Nat.mul_assoc] at this
    omega
  have h3 : (Question.appendCap (n + m) c e).forced = false := rfl
  rcases hu with ⟨e', hu⟩ | hu <;>
  simp [Builtin.append_, run_underlying ht, run_underlying hu, sizeOf, Go.run_typeInfo _ he.info, hlen, hfit, hold, hnew, h1, h2, h3, zeroValue, he.zero, newRow]

theorem append_sound {t u e ty : TypeId} {i : TypeInfo} {z : Value} {x y : AV} {x' y' : Value} {κ : AV → Store → Option α} (ht : P.underlying t = some (.slice e)) (hu : (∃ e', P.underlying u = some (.slice e')) ∨ P.underlying u = some .string) (he : ElemOk P e i z)
    (h : aAppend i.size i.bytes x y s κ = some r) (hx : VR ι s w x x') (hy : VR ι s w y y') (hW : WR B w0 ι s w) :
    ∃ v s' v' w' ι', κ v s' = some r ∧ (Builtin.append_ #[t, u] ty #[x', y']).run P w = .ok v' w' ∧ VR ι' s' w' v v' ∧ WR B w0 ι' s' w' ∧ Later ι s w ι' s' w' := by
  obtain ⟨m, new, ys, h', hlen, hnl, hnew, hone, hfirst⟩ := cellsOf_sound (P := P) h hy hW
  clear h
  have h := h'
  clear h'
  have hdrew : ∀ b, b < w.heap.size → w.drew.heap[b]? = w.heap[b]? := fun _ _ => rfl
  have hf0 := hfirst m (Nat.le_refl _) w (fun _ _ => rfl)
  have hf1 := hfirst m (Nat.le_refl _) w.drew hdrew
  have hys : ys.take (m * i.size) = ys := List.take_of_length_le (by rw [← hnew.1, hnl]; exact Nat.le_refl _)
  rw [hys] at hf0 hf1
  cases x with
  | nilsl =>
    cases hx
    simp only at h
    split at h
    · rename_i hm
      subst hm
      exact ⟨_, _, _, w, ι, h, append_fit_none ht hu he 0 0 0 y' _ hlen (Nat.le_refl _) hf0, .nilsl, hW, Later.refl _ _ _⟩
    · rename_i hm
      split at h
      · rename_i hb
        obtain ⟨cap, hcap, hrun⟩ := append_out (ty := ty) ht hu he none 0 0 m y' #[] ys.toArray hlen (by omega) (by rw [Nat.zero_add]; exact hb.1) hb.2 (by simp [Builtin.firstCells]) hf1
        rw [Nat.zero_add] at hcap hrun
        generalize hc : (#[] ++ ys.toArray ++ Builtin.zeroCells z.cells (cap - m)) = c at hrun
        have hcs : c.toList.take new.length = ys := by
          rw [← hc, hnew.1]; simp
        have hsz : c.size = cap * i.size := by
          rw [← hc]
          simp only [Array.size_append, zeroCells_size, he.size, List.size_toArray, ← hnew.1, hnl, List.size_toArray, List.length_nil]
          rw [Nat.zero_add, ← Nat.add_mul]; congr 1; omega
        obtain ⟨ι', h5, h6, h7⟩ := push_cells hW (cs := new) (c := c) e (0, 0) false (w' := w.drew.alloc (.cells c e)) rfl rfl rfl rfl (by rw [hcs]; exact hnew) (by rw [hcs]; exact hone) (fun _ => rfl)
        exact ⟨_, _, _, _, ι', h, hrun, new_sl h7 rfl hnl.symm (by omega) (by rw [hsz]; exact Nat.le_refl _) (by rw [hnl]; exact Nat.mul_le_mul_right _ hcap), h5, h6⟩
      · cases h
  | sl l off n es' ep =>
    simp only at h
    split at h
    · rename_i hes
      subst hes
      obtain ⟨xs, hg, hep, hk⟩ := own_of h
      clear h
      have h := hk
      clear hk
      cases hx with
      | sl hl hle ha hc hr =>
        rename_i a c
        obtain ⟨hsh, hadr0⟩ := ha (by rw [hg]; show _ + 1 = _ + 1; omega)
        split at h
        · rename_i hm
          subst hm
          have hy0 : ys = [] := List.eq_nil_of_length_eq_zero (by rw [← hnew.1, hnl, Nat.zero_mul])
          subst hy0
          exact ⟨_, _, _, w, ι, h, append_fit ht hu he a n c 0 y' _ w hlen (by omega) hf0 (by simp [storeCells]), .sl hl hle ha (by omega) hr, hW, Later.refl _ _ _⟩
        · rename_i hm
          split at h
          · rename_i hcond
            obtain ⟨hend, hb, hes0, hb0⟩ := hcond
            have hpos : 0 < new.length := by rw [hnl]; exact Nat.mul_pos (by omega) hes0
            by_cases hfit : n + m ≤ c
            · obtain ⟨hadr, hblk, hroom⟩ := hadr0 (by omega)
              have hcap : (n + m) * i.size ≤ c * i.size := Nat.mul_le_mul_right _ hfit
              rw [Nat.add_mul] at hcap
              have hroom' : (ι l).o + (xs.length - (ι l).sh) + new.length ≤ bsz w (ι l).b := by
                rw [hadr] at hroom
                rw [hnl]
                simp only at hroom
                omega
              obtain ⟨w', hst, hW', hL'⟩ := grow_in (P := P) hW hl hg (by omega) hnew hone hpos hroom'
              have hst' : (storeCells (a.add (n * i.size)) ys.toArray.toList).run P w = .ok () w' := by
                rw [hadr, add_mk, show (ι l).o + (off - (ι l).sh) + n * i.size = (ι l).o + (xs.length - (ι l).sh) by omega]; exact hst
              refine ⟨_, _, _, w', ι, h, append_fit ht hu he a n c m y' _ w' hlen hfit hf0 hst', ?_, hW', hL'⟩
              have hsz : ((s.set l (.cells (xs ++ new) false)).get l).size = ep + m * i.size + 1 := by simp [Store.set, AObj.size, hep, hnl]
              exact .sl hl (by rw [hsz]; exact Nat.le_refl _) (fun _ => ⟨hsh, fun _ => ⟨hadr, Nat.lt_of_lt_of_le hblk hL'.hs, by rw [hL'.bs _ hblk]; exact hroom⟩⟩) hfit (by omega)
            · obtain ⟨os, ho1, ho2, ho4, ho3⟩ := cells_at hW hl hg off (n * i.size) (by omega) hsh
              have hold : (Builtin.firstCells i.size n (.slice (some a) n c)).run P w.drew = .ok os.toArray w.drew := by
                simp only [Builtin.firstCells]
                by_cases hn0 : n = 0
                · subst hn0
                  have : os = [] := List.eq_nil_of_length_eq_zero (by rw [ho1, Nat.zero_mul])
                  subst this
                  simp [loadCells, loadCellsFrom]
                obtain ⟨hadr, _, _⟩ := hadr0 (by omega)
                rw [hadr, ← ho1]
                exact run_loadCells_list (P := P) w.drew _ os (fun j v hj => ho3 j v hj)
              obtain ⟨cap, hcap, hrun⟩ := append_out (ty := ty) ht hu he (some a) n c m y' os.toArray ys.toArray hlen hfit hb hb0 hold hf1
              have hdt : (xs.drop off).take (n * i.size) = xs.drop off := List.take_of_length_le (by rw [List.length_drop]; omega)
              rw [hdt] at ho2
              obtain ⟨ι', h5, h6, h7⟩ := grow_out hW hl hg (off := off) (by omega) ho2 ho4 hnew hone hpos (Builtin.zeroCells z.cells (cap - (n + m))).toList e (w' := w.drew.alloc (.cells (os.toArray ++ ys.toArray ++ Builtin.zeroCells z.cells (cap - (n + m))) e)) (by show w.heap.push (.cells _ e) = w.heap.push (.cells _ e); congr 2; simp) rfl rfl rfl
              refine ⟨_, _, _, _, ι', h, hrun, ?_, h5, h6⟩
              have hsz : ((s.set l (.cells (xs ++ new) false)).get l).size = ep + m * i.size + 1 := by simp [Store.set, AObj.size, hep, hnl]
              refine .sl hl (by rw [hsz]; exact Nat.le_refl _) (fun _ => ⟨by rw [h7]; exact Nat.le_refl _, fun _ => ⟨by rw [h7]; simp, by show w.heap.size < (w.heap.push _).size; simp, ?_⟩⟩) hcap (by
                have hcap2 : (n + m) * i.size ≤ cap * i.size := Nat.mul_le_mul_right _ hcap
                rw [Nat.add_mul] at hcap2
                omega)
              have hbs : bsz (w.drew.alloc (.cells (os.toArray ++ ys.toArray ++ Builtin.zeroCells z.cells (cap - (n + m))) e)) w.heap.size = cap * i.size := by
                have : (w.drew.alloc (.cells (os.toArray ++ ys.toArray ++ Builtin.zeroCells z.cells (cap - (n + m))) e)).heap[w.heap.size]? = some (.cells (os.toArray ++ ys.toArray ++ Builtin.zeroCells z.cells (cap - (n + m))) e) := by show (w.heap.push _)[w.heap.size]? = _; simp
                unfold bsz
                rw [this]
                simp only [Array.size_append, zeroCells_size, he.size, List.size_toArray, ← hnew.1, hnl, ho1]
                rw [← Nat.add_mul, ← Nat.add_mul]; congr 1; omega
              simp only [hbs]; omega
          · split at h
            · rename_i hin
              obtain ⟨hin, hes0⟩ := hin
              have hcapn : n + m ≤ c := by
                have h1 := hr
                have h2 : (n + m) * i.size ≤ c * i.size := by omega
                exact Nat.le_of_mul_le_mul_right h2 hes0
              obtain ⟨hadr, hblk, hroom⟩ := hadr0 (by omega)
              rw [Nat.add_mul] at hin
              obtain ⟨w', hst, hW', hL'⟩ := set_cells (P := P) hW hl hg (off + n * i.size) (by omega) (by rw [hnl]; omega) hnew hone
              have hst' : (storeCells (a.add (n * i.size)) ys.toArray.toList).run P w = .ok () w' := by
                rw [hadr, add_mk, show (ι l).o + (off - (ι l).sh) + n * i.size = (ι l).o + (off + n * i.size - (ι l).sh) by omega]; exact hst
              exact ⟨_, _, _, w', ι, h, append_fit ht hu he a n c m y' _ w' hlen hcapn hf0 hst', (VR.sl (n := n + m) hl hle ha hcapn hr).later hL', hW', hL'⟩
            · cases h
    · cases h
  | _ => simp at h

theorem copy_sound {t u e ty : TypeId} {c : Nat} {x y : AV} {x' y' : Value} {κ : AV → Store → Option α} (ht : P.underlying t = some (.slice e)) (hc : szOf P e = some c)
    (h : aCopy c x y s κ = some r) (hx : VR ι s w x x') (hy : VR ι s w y y') (hW : WR B w0 ι s w) :
    ∃ v s' v' w' ι', κ v s' = some r ∧ (Builtin.copy_ #[t, u] ty #[x', y']).run P w = .ok v' w' ∧ VR ι' s' w' v v' ∧ WR B w0 ι' s' w' ∧ Later ι s w ι' s' w' := by
  obtain ⟨m, new, ys, h', hlen, hnl, hnew, hone, hfirst⟩ := cellsOf_sound (P := P) h hy hW
  clear h
  have h := h'
  clear h'
  obtain ⟨i, hi, rfl⟩ : ∃ i, P.info? e = some i ∧ i.size = c := by
    unfold szOf at hc
    cases hq : P.info? e with
    | none => rw [hq] at hc; cases hc
    | some i => rw [hq] at hc; exact ⟨i, rfl, by simpa using hc⟩
  cases x with
  | nilsl =>
    cases hx
    have hf := hfirst 0 (Nat.zero_le _) w (fun _ _ => rfl)
    refine ⟨_, _, .int .i64 0, w, ι, h, ?_, .int _ _, hW, Later.refl _ _ _⟩
    simp [Builtin.copy_, run_underlying ht, sizeOf, Go.run_typeInfo _ hi, hlen, hf, goInt]
  | sl l off n es' ep =>
    simp only at h
    split at h
    · rename_i hes
      subst hes
      obtain ⟨xs, hg, hep, hk⟩ := own_of h
      clear h
      have h := hk
      clear hk
      cases hx with
      | sl hl hle ha hcc hr =>
        rename_i a cc
        obtain ⟨hsh, hadr0⟩ := ha (by rw [hg]; show _ + 1 = _ + 1; omega)
        split at h
        · rename_i hcond
          have hmin : min m n ≤ m := Nat.min_le_left _ _
          have hle1 : min m n * i.size ≤ n * i.size := Nat.mul_le_mul_right _ (Nat.min_le_right _ _)
          have hle2 : min m n * i.size ≤ m * i.size := Nat.mul_le_mul_right _ hmin
          have hf := hfirst (min m n) hmin w (fun _ _ => rfl)
          have hs := hnew.take (min m n * i.size)
          have hlt : (new.take (min m n * i.size)).length = min m n * i.size := by rw [List.length_take, hnl]; omega
          obtain ⟨w', hst, hW', hL'⟩ := set_cells (P := P) hW hl hg off hsh (by rw [hlt]; omega) hs (fun z hz => hone z (List.mem_of_mem_take hz))
          refine ⟨_, _, .int .i64 (min m n : Nat), w', ι, h, ?_, .int _ _, hW', hL'⟩
          have hf' : (Builtin.firstCells i.size (Nat.min m n) y').run P w = .ok (ys.take (min m n * i.size)).toArray w := hf
          have hst' : (storeCells a (ys.take (min m n * i.size))).run P w = .ok () w' := by
            by_cases hn0 : n = 0
            · subst hn0
              simp only [Nat.min_zero, Nat.zero_mul, List.take_zero, storeCells, Sem.run_pure] at hst ⊢
              exact hst
            · obtain ⟨hadr, _, _⟩ := hadr0 (by omega)
              rw [hadr]; exact hst
          simp only [Builtin.copy_]
          simp [run_underlying ht, sizeOf, Go.run_typeInfo _ hi, hlen, hf', goInt, hst']
        · cases h
    · cases h
  | _ => simp at h

theorem zeroCells_list (z : Array Value) (n : Nat) : (Builtin.zeroCells z n).toList = (List.replicate n z.toList).flatten := by
  apply List.ext_getElem?
  intro i
  have hlen : (List.replicate n z.toList).flatten.length = n * z.size := by simp
  have hlen2 : (Builtin.zeroCells z n).toList.length = n * z.size := by simp [Builtin.zeroCells]
  by_cases hi : i < n * z.size
  · have hz : 0 < z.size := by
      rcases Nat.eq_zero_or_pos z.size with h | h
      · rw [h, Nat.mul_zero] at hi; omega
      · exact h
    have h1 : (Builtin.zeroCells z n).toList[i]? = z[i % z.size]? := by
      have : i % z.size < z.size := Nat.mod_lt _ hz
      simp [Builtin.zeroCells, hi, this]
    have h2 : (List.replicate n z.toList).flatten[i]? = z.toList[i % z.size]? := by
      clear h1 hlen hlen2
      induction n generalizing i with
      | zero => simp at hi
      | succ n ih =>
        rw [List.replicate_succ, List.flatten_cons]
        by_cases h : i < z.size
        · rw [List.getElem?_append_left (by simpa using h), Nat.mod_eq_of_lt h]
        · rw [List.getElem?_append_right (by simp; omega), Array.length_toList, ih (i - z.size) (by rw [Nat.succ_mul] at hi; omega), Nat.mod_eq_sub_mod (show i ≥ z.size by omega)]
    rw [h1, h2, Array.getElem?_toList]
  · rw [List.getElem?_eq_none (by omega), List.getElem?_eq_none (by omega)]
end
end Go.Proofs.YtjbgdpfkmcibbaaGreatDoor.Sim
