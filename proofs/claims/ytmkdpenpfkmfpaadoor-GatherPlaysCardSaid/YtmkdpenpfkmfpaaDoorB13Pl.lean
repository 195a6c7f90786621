/- Layer 13: what holds of the parts along any row of acts: plain law. No condition. -/
import Derived.Test.YtmkdpenpfkmfpaaDoorB13Pk
namespace Go.Proofs.YtmkdpenpfkmfpaaDoor.Sim
set_option linter.unusedSimpArgs false
set_option linter.unusedVariables false

structure InvA (g : AG) : Prop where
  chunk : 1 ≤ g.chunk ∧ g.chunk ≤ 65536
  most : g.most ≤ g.room
  room : g.room < 9223372036854775808
  cnt : g.counts.length = 6
  nodup : (g.L.map (·.id)).Nodup
  fit : ∀ q ∈ g.L, FitQ g.chunk q
  open_ : ∀ q ∈ g.L, cntW q.W < q.n
theorem FitQ.le {chunk : Int} {q : AP} (h : FitQ chunk q) : cntW q.W ≤ q.n := by
  rw [cntW_tight h.len h.tight]
  exact cntW_le _ _
theorem open_rest {chunk : Int} {q : AP} (h : FitQ chunk q) (ho : cntW q.W < q.n) : restW q.W q.n 0 ≠ [] := by
  intro e
  have h1 := rest_cnt q.W q.n
  rw [e, cntW_tight h.len h.tight] at *
  simp at h1
  omega
theorem findA_none {x : Int × Int} : ∀ {L : List AP}, ¬ findA x L < L.length → ∀ q ∈ L, q.id ≠ x
  | [], _, q, hq => by cases hq
  | p :: l, h, q, hq => by
    by_cases he : p.id = x
    · rw [findA, if_pos he] at h; simp at h
    · rw [findA, if_neg he] at h
      rcases List.mem_cons.1 hq with rfl | hq
      · exact he
      · exact findA_none (L := l) (by simp at h; omega) q hq
theorem findA_le (x : Int × Int) : ∀ L : List AP, findA x L ≤ L.length
  | [] => Nat.le_refl _
  | p :: l => by
    by_cases he : p.id = x
    · rw [findA, if_pos he]; exact Nat.zero_le _
    · rw [findA, if_neg he]; exact Nat.succ_le_succ (findA_le x l)
theorem cutA_sub (lim : Int) : ∀ (L : List AP) (c : List Int), (cutA lim L c).1.Sublist L
  | [], c => List.Sublist.refl _
  | q :: l, c => by
    simp only [cutA]
    split
    · exact (cutA_sub lim l _).cons _
    · exact List.Sublist.refl _
theorem cutA_cnt (lim : Int) : ∀ (L : List AP) (c : List Int), (cutA lim L c).2.length = c.length
  | [], c => rfl
  | q :: l, c => by
    simp only [cutA]
    split
    · rw [cutA_cnt lim l, countC_len]
    · rfl
theorem map_set_id {L : List AP} {j : Nat} {q q0 : AP} (h : L[j]? = some q0) (hid : q.id = q0.id) : (L.set j q).map (·.id) = L.map (·.id) := by
  rw [List.map_set, hid]
  apply List.ext_getElem?
  intro i
  rw [List.getElem?_set]
  by_cases e : j = i
  · subst e
    obtain ⟨hl, hq⟩ := List.getElem?_eq_some_iff.1 h
    rw [if_pos rfl, List.length_map, if_pos hl, List.getElem?_map, h]
    rfl
  · rw [if_neg e]
theorem layA_inv {g : AG} {f : Frm} {d : List Int} {j at0 : Nat} {q0 : AP} (hq0 : g.L[j]? = some q0) (hc : 1 ≤ g.chunk ∧ g.chunk ≤ 65536) (hm : g.most ≤ g.room) (hr : g.room < 9223372036854775808) (hcn : g.counts.length = 6) (hnd : (g.L.map (·.id)).Nodup) (hfit : ∀ q ∈ g.L, FitQ g.chunk q) (hop : ∀ i (hi : i < g.L.length), i ≠ j → cntW g.L[i].W < g.L[i].n) (hat : f.at_ = (at0 : Int)) (hle : (f.at_ * g.chunk).toNat + d.length ≤ q0.b.length) : InvA (layA g j f d).1 := by
  obtain ⟨hl, hq⟩ := List.getElem?_eq_some_iff.1 hq0
  have hmem : q0 ∈ g.L := List.mem_of_getElem? hq0
  have hfq := (hfit _ hmem).fill (i := at0) hle
  unfold layA
  rw [hq0]
  simp only
  rw [hat] at hfq ⊢
  split
  · refine ⟨hc, hm, hr, by show (countC g.counts 5).length = 6; rw [countC_len]; exact hcn, ?_, fun q hq => hfit q (List.mem_of_mem_eraseIdx hq), fun q hq => ?_⟩
    · have : (g.L.eraseIdx j).map (·.id) = (g.L.map (·.id)).eraseIdx j := by
        apply List.ext_getElem?
        intro i
        simp only [List.getElem?_eraseIdx, List.getElem?_map]
        split <;> rfl
      show ((g.L.eraseIdx j).map (·.id)).Nodup
      rw [this]
      exact hnd.sublist (List.eraseIdx_sublist _ _)
    · obtain ⟨i, hi, he⟩ := List.getElem_of_mem hq
      have hi' : i < (g.L.eraseIdx j).length := hi
      have h2 : (g.L.eraseIdx j)[i]? = some q := by rw [List.getElem?_eq_getElem hi']; exact congrArg some he
      rw [List.getElem?_eraseIdx] at h2
      split at h2
      · obtain ⟨h3, h4⟩ := List.getElem?_eq_some_iff.1 h2
        rw [← h4]
        exact hop i h3 (by omega)
      · obtain ⟨h3, h4⟩ := List.getElem?_eq_some_iff.1 h2
        rw [← h4]
        exact hop (i + 1) h3 (by omega)
  · rename_i hnf
    refine ⟨hc, hm, hr, by show (countC g.counts 4).length = 6; rw [countC_len]; exact hcn, ?_, fun q hq => ?_, fun q hq => ?_⟩
    · show ((g.L.set j _).map (·.id)).Nodup
      rw [map_set_id (q := q0.fill (at0 : Int) ((at0 : Int) * g.chunk).toNat d) hq0 rfl]
      exact hnd
    · rcases List.mem_or_eq_of_mem_set hq with q1 | q1
      · exact hfit q q1
      · rw [q1]; exact hfq
    · obtain ⟨i, hi, he⟩ := List.getElem_of_mem hq
      have hi' : i < (g.L.set j (q0.fill (at0 : Int) ((at0 : Int) * g.chunk).toNat d)).length := hi
      have h2 : (g.L.set j (q0.fill (at0 : Int) ((at0 : Int) * g.chunk).toNat d))[i]? = some q := by rw [List.getElem?_eq_getElem hi']; exact congrArg some he
      rw [List.getElem?_set] at h2
      split at h2
      · rw [← Option.some.inj h2]
        have := hfq.le
        omega
      · rename_i hne
        obtain ⟨h3, h4⟩ := List.getElem?_eq_some_iff.1 h2
        rw [← h4]
        exact hop i h3 (fun e => hne e.symm)
theorem putA_inv {g : AG} {f : Frm} {d : List Int} (h : InvA g) (hw : f.Wf) : InvA (putA g f d).1 := by
  have hcount : ∀ w, InvA { g with counts := countC g.counts w } := fun w => ⟨h.chunk, h.most, h.room, by show (countC g.counts w).length = 6; rw [countC_len]; exact h.cnt, h.nodup, h.fit, h.open_⟩
  unfold putA
  split
  · exact hcount 1
  rename_i hok
  have hr : rightB f g.chunk g.most d.length = true := by
    have : (idOk f.id && rightB f g.chunk g.most d.length) = true := by simpa using hok
    exact (Bool.and_eq_true_iff.1 this).2
  obtain ⟨r1, r2, r3, r4, r5, r6, r7, r8, r9, r10⟩ := right_of hr hw
  obtain ⟨at0, hat⟩ : ∃ a : Nat, f.at_ = (a : Int) := ⟨f.at_.toNat, by have := hw.at0; omega⟩
  cases hq : g.L[findA f.id g.L]? with
  | some q =>
    simp only
    split
    · exact hcount 1
    rename_i hs
    have hs' : (q.b.length : Int) = f.size := Classical.byContradiction fun e => hs e
    split
    · exact hcount 2
    · exact layA_inv hq h.chunk h.most h.room h.cnt h.nodup h.fit (fun i hi _ => h.open_ _ (List.getElem_mem hi)) hat (by omega)
  | none =>
    simp only
    split
    · exact hcount 3
    · have hsub := cutA_sub (g.room - f.size) g.L g.counts
      have hnl : ¬ findA f.id g.L < g.L.length := by
        intro e
        rw [List.getElem?_eq_getElem e] at hq
        cases hq
      have hnone := findA_none hnl
      have hz0 := hw.size0
      have hb : (AP.new f).b.length = f.size.toNat := by show (List.replicate f.size.toNat (0 : Int)).length = _; rw [List.length_replicate]
      refine layA_inv (q0 := AP.new f) (by simp) h.chunk h.most h.room (by show (cutA (g.room - f.size) g.L g.counts).2.length = 6; rw [cutA_cnt]; exact h.cnt) ?_ (fun q hq => ?_) (fun i hi hne => ?_) hat (by rw [hb]; show (f.at_ * g.chunk).toNat + d.length ≤ _; omega)
      · show (((cutA (g.room - f.size) g.L g.counts).1 ++ [AP.new f]).map (·.id)).Nodup
        rw [List.map_append]
        refine List.nodup_append.2 ⟨h.nodup.sublist (hsub.map _), by simp, fun a ha b hb => ?_⟩
        obtain ⟨q, hq, rfl⟩ := List.mem_map.1 ha
        rw [List.mem_singleton.1 hb]
        exact hnone q (hsub.subset hq)
      · rcases List.mem_append.1 hq with q1 | q1
        · exact h.fit q (hsub.subset q1)
        · rw [List.mem_singleton.1 q1]
          exact FitQ.new r3 ⟨hz0.1, r8⟩ h.chunk
      · have hi' : i < (cutA (g.room - f.size) g.L g.counts).1.length := by
          have : i < ((cutA (g.room - f.size) g.L g.counts).1 ++ [AP.new f]).length := hi
          rw [List.length_append] at this
          have h2 : i ≠ (cutA (g.room - f.size) g.L g.counts).1.length := hne
          simp at this
          omega
        show cntW ((cutA (g.room - f.size) g.L g.counts).1 ++ [AP.new f])[i].W < ((cutA (g.room - f.size) g.L g.counts).1 ++ [AP.new f])[i].n
        rw [List.getElem_append_left hi']
        exact h.open_ _ (hsub.subset (List.getElem_mem hi'))
theorem dropA_inv {g : AG} {x : Int × Int} (h : InvA g) : InvA (dropA g x).1 ∧ (dropA g x).1.L.length ≤ g.L.length := by
  unfold dropA
  split
  · refine ⟨⟨h.chunk, h.most, h.room, h.cnt, ?_, fun q hq => h.fit q (List.mem_of_mem_eraseIdx hq), fun q hq => h.open_ q (List.mem_of_mem_eraseIdx hq)⟩, (List.eraseIdx_sublist _ _).length_le⟩
    have : (g.L.eraseIdx (findA x g.L)).map (·.id) = (g.L.map (·.id)).eraseIdx (findA x g.L) := by
      apply List.ext_getElem?
      intro i
      simp only [List.getElem?_eraseIdx, List.getElem?_map]
      split <;> rfl
    show ((g.L.eraseIdx (findA x g.L)).map (·.id)).Nodup
    rw [this]
    exact h.nodup.sublist (List.eraseIdx_sublist _ _)
  · exact ⟨h, Nat.le_refl _⟩
theorem layA_len (g : AG) (j : Nat) (f : Frm) (d : List Int) : (layA g j f d).1.L.length ≤ g.L.length := by
  unfold layA
  split
  · exact Nat.le_refl _
  · simp only
    split
    · exact (List.eraseIdx_sublist _ _).length_le
    · show (g.L.set j _).length ≤ _
      rw [List.length_set]
      exact Nat.le_refl _
theorem putA_len (g : AG) (f : Frm) (d : List Int) : (putA g f d).1.L.length ≤ g.L.length + 1 := by
  unfold putA
  split
  · exact Nat.le_succ _
  split
  · split
    · exact Nat.le_succ _
    split
    · exact Nat.le_succ _
    · exact Nat.le_succ_of_le (layA_len _ _ _ _)
  · split
    · exact Nat.le_succ _
    · refine Nat.le_trans (layA_len _ _ _ _) ?_
      show (_ ++ [AP.new f]).length ≤ _
      rw [List.length_append]
      exact Nat.succ_le_succ (cutA_len _ _ _)
end Go.Proofs.YtmkdpenpfkmfpaaDoor.Sim
