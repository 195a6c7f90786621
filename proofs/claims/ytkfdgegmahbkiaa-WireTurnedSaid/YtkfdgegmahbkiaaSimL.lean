/- The texts SimJ, SimK, SimL, one behind the other. No condition. -/
import Derived.Test.YtkfdgegmahbkiaaSimI
import Derived.MapKept
import Derived.Laws.Tables
namespace Go.Proofs.Ytkfdgegmahbkiaa.Sim
set_option linter.unusedVariables false
open Go.RowKit (Below)
set_option linter.unusedSimpArgs false
section
variable {P : Program} {call : CallA} {B : Nat} {w0 : World} {ι : Nat → Loc} {s : Store} {w : World} {α : Type} {r : α} {κ : AV → Store → Option α}

theorem num_sound {x : AV} {x' : Value} {f : Int → Option α} (h : aNum x f = some r) (hx : VR ι s w x x') : ∃ k n, x' = .int k n ∧ f n = some r := by
  unfold aNum at h
  split at h
  · cases hx; exact ⟨_, _, rfl, h⟩
  · cases h

/-- A bound: what it is here, what it is there. -/
theorem bound_sound {d : Int} {o : Option AV} {o' : Option Value} {f : Int → Option α} (h : (match o with | some l => aNum l | Option.none => fun k => k d) f = some r) (ho : ∀ x, o = some x → ∃ x', o' = some x' ∧ VR ι s w x x') (hn : o = none → o' = none) :
    ∃ n, f n = some r ∧ ((o' = none ∧ n = d) ∨ ∃ k, o' = some (.int k n)) := by
  cases o with
  | none => exact ⟨d, h, .inl ⟨hn rfl, rfl⟩⟩
  | some x =>
    obtain ⟨x', e, hx⟩ := ho x rfl
    obtain ⟨k, n, rfl, hf⟩ := num_sound h hx
    exact ⟨n, hf, .inr ⟨k, e⟩⟩

theorem run_bounds {isSlice : Bool} {len cap : Nat} {lo hi : Option Value} {a b : Int} (hlo : (lo = none ∧ a = 0) ∨ ∃ k, lo = some (.int k a)) (hhi : (hi = none ∧ b = len) ∨ ∃ k, hi = some (.int k b)) (h0 : 0 ≤ a) (hab : a ≤ b) (hbc : b ≤ cap) (w : World) :
    (Instr.sliceBounds isSlice len cap lo hi none).run P w = .ok (a.toNat, b.toNat, cap) w := by
  have h3 : 0 ≤ b := by omega
  have e3 : a ≤ max b 0 := by omega
  rcases hlo with ⟨rfl, rfl⟩ | ⟨k, rfl⟩ <;> rcases hhi with ⟨rfl, rfl⟩ | ⟨k', rfl⟩ <;> simp [Instr.sliceBounds, Instr.sliceBound, asIntOf, h0, hab, hbc, h3, e3]

theorem cutSl_sound {t e : TypeId} {c : Nat} {x : AV} {x' : Value} {lo hi : Option AV} {lo' hi' : Option Value} {f : AV → Option α} (hu : P.underlying t = some (.slice e)) (hc : szOf P e = some c) (h : aSliceSl c x lo hi f = some r) (hx : VR ι s w x x')
    (hl1 : ∀ x, lo = some x → ∃ x', lo' = some x' ∧ VR ι s w x x') (hl2 : lo = none → lo' = none) (hh1 : ∀ x, hi = some x → ∃ x', hi' = some x' ∧ VR ι s w x x') (hh2 : hi = none → hi' = none) :
    ∃ v v', f v = some r ∧ (Instr.sliceAt t x' lo' hi' none).run P w = .ok v' w ∧ VR ι s w v v' := by
  unfold aSliceSl at h
  split at h
  · obtain ⟨a, h1, ha⟩ := bound_sound h hl1 hl2
    obtain ⟨b, h2, hb⟩ := bound_sound h1 hh1 hh2
    split at h2
    · rename_i hab
      obtain ⟨rfl, rfl⟩ := hab
      cases hx
      refine ⟨_, .slice none 0 0, h2, ?_, .nilsl⟩
      have := run_bounds (P := P) (isSlice := true) (len := 0) (cap := 0) ha hb (Int.le_refl _) (Int.le_refl _) (Int.le_refl _) w
      simp [Instr.sliceAt, Instr.slice, run_underlying hu, this, run_size hc]
    · cases h2
  · rename_i l off n es' ep
    obtain ⟨a, h, ha⟩ := bound_sound h hl1 hl2
    obtain ⟨b, h, hb⟩ := bound_sound h hh1 hh2
    have hab : es' = c ∧ 0 ≤ a ∧ a ≤ b ∧ (b ≤ n ∨ (0 < c ∧ off + b.toNat * c ≤ ep)) ∧ f (.sl l (off + a.toNat * c) (b.toNat - a.toNat) c ep) = some r := by
      split at h
      · rename_i q; exact ⟨q.1, q.2.1, q.2.2.1, .inl q.2.2.2, h⟩
      · split at h
        · rename_i q; exact ⟨q.1, q.2.1, q.2.2.1, .inr q.2.2.2, h⟩
        · cases h
    clear h
    · obtain ⟨rfl, h0, h1, h2, h⟩ := hab
      cases hx with
      | sl hl hle hadr hcap hr =>
        rename_i ad cap
        have hbc : b.toNat ≤ cap := by
          rcases h2 with h2 | ⟨h2, h3⟩
          · omega
          · have h4 : b.toNat * es' ≤ cap * es' := by omega
            exact Nat.le_of_mul_le_mul_right h4 h2
        have hrun := run_bounds (P := P) (isSlice := true) (len := n) (cap := cap) ha hb h0 h1 (by omega) w
        refine ⟨_, .slice (some (if cap = a.toNat then ad else ad.add (a.toNat * es'))) (b.toNat - a.toNat) (cap - a.toNat), h, ?_, .sl hl hle (fun e => ?_) (by omega) (by
          have h1 := hr
          have hmul : cap * es' = a.toNat * es' + (cap - a.toNat) * es' := by rw [← Nat.add_mul]; congr 1; omega
          omega)⟩
        · simp [Instr.sliceAt, Instr.slice, run_underlying hu, hrun, run_size hc]
          split <;> rfl
        · obtain ⟨k1, k2⟩ := hadr e
          refine ⟨by omega, fun hpos => ?_⟩
          obtain ⟨k3, k4, k5⟩ := k2 (by omega)
          rw [if_neg (by omega)]
          have hmul : cap * es' = a.toNat * es' + (cap - a.toNat) * es' := by rw [← Nat.add_mul]; congr 1; omega
          have hadd : ad.add (a.toNat * es') = ⟨(ι l).b, (ι l).o + (off - (ι l).sh) + a.toNat * es', none⟩ := by rw [k3, add_mk]
          have e1 : ad.block = (ι l).b := by rw [k3]
          have e2 : ad.off = (ι l).o + (off - (ι l).sh) := by rw [k3]
          rw [hadd]
          rw [e1] at k4 k5
          rw [e2] at k5
          refine ⟨by congr 1; omega, k4, ?_⟩
          show (ι l).o + (off - (ι l).sh) + a.toNat * es' + (cap - a.toNat) * es' ≤ bsz w (ι l).b
          omega
  · cases h

theorem cutStr_sound {t : TypeId} {x : AV} {x' : Value} {lo hi : Option AV} {lo' hi' : Option Value} {f : AV → Option α} (hu : P.underlying t = some .string) (h : aSliceStr x lo hi f = some r) (hx : VR ι s w x x')
    (hl1 : ∀ x, lo = some x → ∃ x', lo' = some x' ∧ VR ι s w x x') (hl2 : lo = none → lo' = none) (hh1 : ∀ x, hi = some x → ∃ x', hi' = some x' ∧ VR ι s w x x') (hh2 : hi = none → hi' = none) :
    ∃ v v', f v = some r ∧ (Instr.sliceAt t x' lo' hi' none).run P w = .ok v' w ∧ VR ι s w v v' := by
  unfold aSliceStr at h
  split at h
  · rename_i z
    obtain ⟨a, h, ha⟩ := bound_sound h hl1 hl2
    obtain ⟨b, h, hb⟩ := bound_sound h hh1 hh2
    split at h
    · rename_i hab
      obtain ⟨h0, h1, h2⟩ := hab
      cases hx
      have hrun := run_bounds (P := P) (isSlice := false) (len := z.size) (cap := z.size) ha hb h0 h1 h2 w
      exact ⟨_, _, h, by simp [Instr.sliceAt, Instr.slice, run_underlying hu, hrun], .str _⟩
    · cases h
  · cases h

theorem cutArr_sound {t e : TypeId} {len c : Nat} {x : AV} {x' : Value} {lo hi : Option AV} {lo' hi' : Option Value} {f : AV → Option α} (hu : P.underlying t = some (.array len e)) (hc : szOf P e = some c) (h : aSliceArr len c x lo hi f = some r) (hx : VR ι s w x x') (hW : WR B w0 ι s w)
    (hl1 : ∀ x, lo = some x → ∃ x', lo' = some x' ∧ VR ι s w x x') (hl2 : lo = none → lo' = none) (hh1 : ∀ x, hi = some x → ∃ x', hi' = some x' ∧ VR ι s w x x') (hh2 : hi = none → hi' = none) :
    ∃ v v', f v = some r ∧ (Instr.sliceAt t x' lo' hi' none).run P w = .ok v' w ∧ VR ι s w v v' := by
  unfold aSliceArr at h
  split at h
  · rename_i l off ep
    obtain ⟨a, h, ha⟩ := bound_sound h hl1 hl2
    obtain ⟨b, h, hb⟩ := bound_sound h hh1 hh2
    split at h
    · rename_i hab
      obtain ⟨h0, h1, h2, h4, h5⟩ := hab
      cases hx with
      | ptr hl hle hadr =>
        rename_i ad
        have hrun := run_bounds (P := P) (isSlice := false) (len := len) (cap := len) ha hb h0 h1 h2 w
        refine ⟨_, .slice (some (if len = a.toNat then ad else ad.add (a.toNat * c))) (b.toNat - a.toNat) (len - a.toNat), h, ?_, .sl hl hle (fun e => ?_) (by omega) (by
          have hmul : len * c = a.toNat * c + (len - a.toNat) * c := by rw [← Nat.add_mul]; congr 1; omega
          omega)⟩
        · simp [Instr.sliceAt, Instr.sureAddr, run_underlying hu, hrun, run_size hc]
        · obtain ⟨k1, k2⟩ := hadr e
          refine ⟨by omega, fun hpos => ?_⟩
          rw [if_neg (by omega)]
          have hmul : len * c = a.toNat * c + (len - a.toNat) * c := by rw [← Nat.add_mul]; congr 1; omega
          have hadd : ad.add (a.toNat * c) = ⟨(ι l).b, (ι l).o + (off - (ι l).sh) + a.toNat * c, none⟩ := by rw [k2, add_mk]
          rw [hadd]
          have hcells : ∃ xs ro, s.get l = .cells xs ro := by
            cases hg : s.get l with
            | none => rw [hg] at e; simp [AObj.size] at e
            | cells xs ro => exact ⟨xs, ro, rfl⟩
            | map es st => rw [hg] at e; simp [AObj.size] at e; omega
            | miter m since seen last => rw [hg] at e; simp [AObj.size] at e; omega
            | siter b pos => rw [hg] at e; simp [AObj.size] at e; omega
          obtain ⟨xs, ro, hg⟩ := hcells
          obtain ⟨cc, ty, fz, g1, g2, g3, _⟩ := cells_of hW hl hg (.inl (by rw [hg] at e; simp only [AObj.size] at e; omega))
          have hbs : bsz w (ι l).b = cc.size := by unfold bsz; rw [g1]
          rw [hg] at e
          simp only [AObj.size] at e
          refine ⟨by congr 1; omega, heap_lt g1, ?_⟩
          show (ι l).o + (off - (ι l).sh) + a.toNat * c + (len - a.toNat) * c ≤ bsz w (ι l).b
          rw [hbs]
          omega
    · cases h
  · cases h

theorem madeCells_take {zs : List Value} {n m : Nat} (hn : n ≤ m) (hz : 0 < zs.length) : (madeCells zs.toArray (m * zs.length)).toList.take (n * zs.length) = (List.replicate n zs).flatten := by
  apply List.ext_getElem?
  intro i
  have hlen : (List.replicate n zs).flatten.length = n * zs.length := by simp
  have hmn : n * zs.length ≤ m * zs.length := Nat.mul_le_mul_right _ hn
  by_cases hi : i < n * zs.length
  · rw [List.getElem?_take, if_pos hi]
    have h1 : (madeCells zs.toArray (m * zs.length)).toList[i]? = some (zs[i % zs.length]'(Nat.mod_lt _ hz)) := by
      have : i % zs.length < zs.length := Nat.mod_lt _ hz
      simp [madeCells, show i < m * zs.length by omega, this]
    rw [h1]
    have h2 : (List.replicate n zs).flatten[i]? = zs[i % zs.length]? := by
      clear h1 hlen hmn hn
      induction n generalizing i with
      | zero => simp at hi
      | succ n ih =>
        rw [List.replicate_succ, List.flatten_cons]
        by_cases h : i < zs.length
        · rw [List.getElem?_append_left h, Nat.mod_eq_of_lt h]
        · rw [List.getElem?_append_right (by omega), ih (i - zs.length) (by rw [Nat.succ_mul] at hi; omega), Nat.mod_eq_sub_mod (show i ≥ zs.length by omega)]
    rw [h2, List.getElem?_eq_getElem (Nat.mod_lt _ hz)]
  · rw [List.getElem?_take, if_neg hi, List.getElem?_eq_none (by omega)]

theorem makeSlice_sound {t e : TypeId} {i : TypeInfo} {zs : List AV} {n c : AV} {n' c' : Value} (hu : P.underlying t = some (.slice e)) (hz : zerosOf P e = some zs) (hi : P.info? e = some i) (hl : zs.length = i.size)
    (h : aMakeSlice zs i.size i.bytes n c s κ = some r) (hn : VR ι s w n n') (hc : VR ι s w c c') (hW : WR B w0 ι s w) :
    Done P call B w0 ι s w (Instr.makeSlice t n' c' >>= fun a => pure (.value a)) κ r := by
  unfold aMakeSlice at h
  split at h
  · rename_i a b
    cases hn; cases hc
    split at h
    · rename_i hab
      obtain ⟨h0, h1, h2, h3⟩ := hab
      obtain ⟨i', z, hi', hzz, rfl, hone⟩ := zeros_of hz
      obtain rfl : i = i' := Option.some.inj (hi.symm.trans hi')
      have hzl : z.cells.toList.length = i.size := by simpa using hl
      have hrun := run_make (P := P) w t e i z hu hi hzz .i64 .i64 a b h0 h1 (by rw [Int.mul_comm]; omega) h2
      have hzr : VRs ι s w (List.replicate a.toNat (z.cells.toList.map ofVal)).flatten (List.replicate a.toNat z.cells.toList).flatten := (vrs_ofVal ι s w z.cells.toList).replicate _
      have hlen : (List.replicate a.toNat (z.cells.toList.map ofVal)).flatten.length = a.toNat * i.size := by simp at hzl; simp [hzl]
      have htk : (madeCells z.cells (b.toNat * i.size)).toList.take (a.toNat * i.size) = (List.replicate a.toNat z.cells.toList).flatten := by
        by_cases hp : 0 < z.cells.toList.length
        · have := madeCells_take (zs := z.cells.toList) (n := a.toNat) (m := b.toNat) (by omega) hp
          rw [hzl] at this
          simpa using this
        · have hq : z.cells.toList = [] := List.length_eq_zero_iff.1 (by omega)
          have : i.size = 0 := by rw [← hzl, hq]; rfl
          rw [hq, this]; simp
      obtain ⟨ι', h5, h6, h7⟩ := push_cells hW (cs := (List.replicate a.toNat (z.cells.toList.map ofVal)).flatten) (c := madeCells z.cells (b.toNat * i.size)) e (0, 0) false
        (w' := w.alloc (.cells (madeCells z.cells (b.toNat * i.size)) e)) rfl rfl rfl rfl (by rw [hlen, htk]; exact hzr) (by
          rw [hlen, htk]
          intro y hy
          obtain ⟨l, hl1, hl2⟩ := List.mem_flatten.1 hy
          rw [(List.mem_replicate.1 hl1).2] at hl2
          exact hone y hl2) (fun _ => rfl)
      exact .v h hrun (new_sl h7 (c := madeCells z.cells (b.toNat * i.size)) rfl hlen.symm (by omega) (by rw [size_madeCells]; exact Nat.le_refl _) (by rw [hlen]; exact Nat.mul_le_mul_right _ (by omega))) h5 h6
    · cases h
  · cases h

theorem cutCap_sound {t e : TypeId} {c : Nat} {x m : AV} {x' m' : Value} {lo hi : Option AV} {lo' hi' : Option Value} {f : AV → Option α} (hu : P.underlying t = some (.slice e)) (hc : szOf P e = some c) (h : aCutCap x lo hi m f = some r) (hx : VR ι s w x x') (hm : VR ι s w m m')
    (hl1 : ∀ x, lo = some x → ∃ x', lo' = some x' ∧ VR ι s w x x') (hl2 : lo = none → lo' = none) (hh1 : ∀ x, hi = some x → ∃ x', hi' = some x' ∧ VR ι s w x x') (hh2 : hi = none → hi' = none) :
    ∃ v v', f v = some r ∧ (Instr.sliceAt t x' lo' hi' (some m')).run P w = .ok v' w ∧ VR ι s w v v' := by
  unfold aCutCap at h
  split at h
  · rename_i l off n es ep
    obtain ⟨a, h, ha⟩ := bound_sound h hl1 hl2
    obtain ⟨b, h, hb⟩ := bound_sound h hh1 hh2
    obtain ⟨k, q, rfl, h⟩ := num_sound h hm
    split at h
    · rename_i hab
      obtain ⟨h0, h1, h2, h3, h4⟩ := hab
      cases hx with
      | sl hl hle hadr hcap hr =>
        rename_i ad cap
        obtain ⟨kb, rfl⟩ : ∃ kb, hi' = some (.int kb b) := by
          rcases hb with ⟨e1, _⟩ | h
          · cases hi with
            | none => simp at h4
            | some y => obtain ⟨y', e2, _⟩ := hh1 y rfl; rw [e1] at e2; cases e2
          · exact h
        have hrun : (Instr.sliceBounds true n cap lo' (some (.int kb b)) (some (.int k q))).run P w = .ok (a.toNat, b.toNat, q.toNat) w := by
          have g1 : 0 ≤ b := by omega
          have g2 : 0 ≤ q := by omega
          have g3 : q ≤ cap := by omega
          have g4 : b ≤ max q 0 := by omega
          have g5 : a ≤ max b 0 := by omega
          rcases ha with ⟨rfl, rfl⟩ | ⟨k2, rfl⟩ <;> simp [Instr.sliceBounds, Instr.sliceBound, asIntOf, h0, g1, g2, g3, g4, g5, h1, h2]
        exact ⟨_, .slice (if q.toNat = a.toNat then some ad else some (ad.add (a.toNat * c))) (b.toNat - a.toNat) (q.toNat - a.toNat), h, by simp [Instr.sliceAt, Instr.slice, run_underlying hu, hrun, run_size hc], .junk _⟩
    · cases h
  · cases h

theorem clear_sound {t e : TypeId} {i : TypeInfo} {zs : List AV} {x : AV} {x' : Value} {ts : Array TypeId} {xs : Array Value} {ty : TypeId} {f : Store → Option α} (hts : ts[0]? = some t) (hx0 : xs[0]? = some x') (hu : P.underlying t = some (.slice e)) (hz : zerosOf P e = some zs) (hi : P.info? e = some i) (hl : zs.length = i.size)
    (h : aClear zs i.size x s f = some r) (hx : VR ι s w x x') (hW : WR B w0 ι s w) : ∃ s' w' ι', f s' = some r ∧ (Builtin.clear_ ts ty xs).run P w = .ok (.tuple #[]) w' ∧ WR B w0 ι' s' w' ∧ Later ι s w ι' s' w' := by
  obtain ⟨i', z, hi', hzz, rfl, hone⟩ := zeros_of hz
  obtain rfl : i = i' := Option.some.inj (hi.symm.trans hi')
  have hzl : z.cells.toList.length = i.size := by simpa using hl
  unfold aClear at h
  split at h
  · cases hx
    exact ⟨_, w, ι, h, by simp [Builtin.clear_, hts, hx0, run_underlying hu], hW, Later.refl _ _ _⟩
  · rename_i l off n es' ep
    cases hx with
    | sl hll hle ha hc hr =>
      rename_i a c
      split at h
      · rename_i hn
        subst hn
        exact ⟨_, w, ι, h, by simp [Builtin.clear_, hts, hx0, run_underlying hu], hW, Later.refl _ _ _⟩
      · rename_i hn
        split at h
        · rename_i hes
          subst hes
          obtain ⟨xs1, hg, hep, h⟩ := own_of h
          split at h
          · rename_i hin
            obtain ⟨hsh, hadr0⟩ := ha (by rw [hg]; show _ + 1 = _ + 1; omega)
            obtain ⟨hadr, _, _⟩ := hadr0 (by omega)
            have hzr : VRs ι s w (List.replicate n (z.cells.toList.map ofVal)).flatten (List.replicate n z.cells.toList).flatten := (vrs_ofVal ι s w z.cells.toList).replicate _
            have hlen : (List.replicate n (z.cells.toList.map ofVal)).flatten.length = n * i.size := by simp at hzl; simp [hzl]
            obtain ⟨w', hst, hW', hL'⟩ := set_cells (P := P) hW hll hg off hsh (by rw [hlen]; exact hin) hzr (fun y hy => by
              obtain ⟨l, hl1, hl2⟩ := List.mem_flatten.1 hy
              rw [(List.mem_replicate.1 hl1).2] at hl2
              exact hone y hl2)
            refine ⟨_, w', ι, h, ?_, hW', hL'⟩
            rw [← hadr, ← zeroCells_list] at hst
            obtain ⟨n, rfl⟩ : ∃ k, n = k + 1 := ⟨n - 1, by omega⟩
            simp [Builtin.clear_, hts, hx0, run_underlying hu, run_zero hi hzz, hst]
          · cases h
        · cases h
  · cases h

theorem convSl_sound {t e : TypeId} {x : AV} {x' : Value} (hu : P.underlying t = some (.slice e)) (he : P.underlying e = some (.int .u8)) (h : aConvSl x s κ = some r) (hx : VR ι s w x x') (hW : WR B w0 ι s w) :
    Done P call B w0 ι s w (convert t t x' >>= fun a => pure (.value a)) κ r := by
  unfold aConvSl at h
  split at h
  · rename_i l off n es ep
    split at h
    · rename_i hn
      obtain ⟨xs, hg, hep, h⟩ := own_of h
      cases hx with
      | sl hl hle ha hc hr =>
        rename_i a c
        obtain ⟨hsh, hadr0⟩ := ha (by rw [hg]; show _ + 1 = _ + 1; omega)
        obtain ⟨hadr, _, _⟩ := hadr0 (by omega)
        obtain ⟨cc, ty, fz, g1, g2, g3, g4, g5, g6⟩ := cells_of hW hl hg (.inr rfl)
        obtain ⟨rfl, hB⟩ := g6 rfl
        have hsh2 : w.shape? (ι l).b = some (ty, cc.size) := by unfold World.shape?; rw [g1]
        have hb : (ι l).b < w.heap.size := heap_lt g1
        have hfh : ∀ b, (w.freeze ⟨(ι l).b, cc.size, none⟩ 1).heap[b]? = if b = (ι l).b then some (.cells cc ty (cc.size, cc.size + 1)) else w.heap[b]? := fun b => by
          unfold World.freeze
          rw [if_neg (by decide)]
          simp only [Array.getElem?_modify]
          by_cases e : (ι l).b = b
          · subst e; rw [if_pos rfl, if_pos rfl, g1]; rfl
          · rw [if_neg e, if_neg (fun q => e q.symm)]
        have hsz : (w.freeze ⟨(ι l).b, cc.size, none⟩ 1).heap.size = w.heap.size := by unfold World.freeze; rw [if_neg (by decide)]; simp
        have hrest : (w.freeze ⟨(ι l).b, cc.size, none⟩ 1).os = w.os ∧ (w.freeze ⟨(ι l).b, cc.size, none⟩ 1).tape = w.tape ∧ (w.freeze ⟨(ι l).b, cc.size, none⟩ 1).output = w.output := by unfold World.freeze; rw [if_neg (by decide)]; exact ⟨rfl, rfl, rfl⟩
        have hrun : (convert t t (.slice (some a) n c)).run P w = .ok (.slice (some a) n c) (w.freeze ⟨(ι l).b, cc.size, none⟩ 1) := by
          have : a.block = (ι l).b := by rw [hadr]
          simp [convert, run_underlying hu, run_underlying he, markStringish, this, hsh2]
        have := hW.update hl (by rw [hg]; rfl) hB (.cells xs true) (ι l) (w' := w.freeze ⟨(ι l).b, cc.size, none⟩ 1) (by rw [hg]; exact Nat.le_refl _) (fun _ => rfl) hrest.1 hrest.2.1 hrest.2.2 (by rw [hsz]; exact Nat.le_refl _) (fun b _ hne => by rw [hfh b, if_neg hne])
          (by unfold bsz; rw [hfh, if_pos rfl, g1]) (.inl rfl) (fun k => .inr ⟨cc, ty, (cc.size, cc.size + 1), by rw [hfh, if_pos rfl], g2, g3, g4.later k, g5, fun q => by cases q⟩)
        rw [upd_self] at this
        exact .v h hrun ((VR.sl hl hle ha hc hr).later this.2) this.1 this.2
    · cases h
  · cases h

theorem makeMap_sound {t : TypeId} (h : κ (.map s.next) (s.push (.map [] ([], 0))) = some r) (hW : WR B w0 ι s w) : Done P call B w0 ι s w (Instr.makeMap t none >>= fun a => pure (.value a)) κ r := by
  obtain ⟨h5, h6⟩ := hW.push (.map [] ([], 0)) ⟨w.heap.size, 0, 0⟩ (w' := { w with heap := w.heap.push (.map #[] 0) }) rfl rfl rfl (by simp) (fun b hb => by simp only [Array.getElem?_push, if_neg (show ¬ b = w.heap.size by omega)]) (Nat.le_refl _)
    (fun _ => ⟨#[], 0, by simp, hW.hB, rfl, fun i k v hi => by simp at hi, rfl⟩)
  exact .v h (v' := .map (some w.heap.size)) (by simp [Instr.makeMap]) (.map (by simp [Store.push]) (by simp [Store.push, AObj.size]) (fun _ => by simp)) h5 h6

/-! ### maps -/
def kindFits : TypeDesc → EK → Bool
  | .bool, .bool => true
  | .int _, .int => true
  | .string, .str => true
  | _, _ => false

theorem keyKind_of {kt : TypeId} {kd : EK} (h : keyKind P kt = some kd) : (∃ d, P.underlying kt = some d ∧ kindFits d kd = true) ∨ ∃ ks fl, kd = .struct ks ∧ ekOf P kt = some (.struct ks) ∧ P.underlying kt = some (.struct fl) ∧ ekFields P 4 0 fl.toList = some ks := by
  unfold keyKind at h
  split at h
  · rename_i hu; obtain rfl := Option.some.inj h; exact .inl ⟨_, hu, rfl⟩
  · rename_i hu; obtain rfl := Option.some.inj h; exact .inl ⟨_, hu, rfl⟩
  · rename_i hu; obtain rfl := Option.some.inj h; exact .inl ⟨_, hu, rfl⟩
  · rename_i fl hu
    have h0 := h
    unfold ekOf at h
    rw [hu] at h
    simp only at h
    split at h
    · obtain ⟨ks, hks, hke⟩ := Option.map_eq_some_iff.1 h
      subst hke
      exact .inr ⟨ks, fl, rfl, h0, hu, hks⟩
    · cases h
  · cases h

theorem run_forIn_unit {β : Type} {f : β → Unit → Sem (ForInStep Unit)} : ∀ (l : List β), (∀ x ∈ l, (f x ()).run P w = .ok (.yield ()) w) → (forIn l () f).run P w = .ok () w
  | [], _ => by simp [Sem.run_pure]
  | x :: l, h => by
    simp only [List.forIn_cons, Sem.run_bind, h x List.mem_cons_self, Result.andThen]
    exact run_forIn_unit l fun y hy => h y (List.mem_cons_of_mem _ hy)
/-- A field of a key is checked, with so much fuel. -/
def FieldCk (P : Program) (w : World) (xs' : Array Value) (m : Nat) (f : Field) : Prop := f.name ≠ "_" ∧ ∃ v, (part f.type xs' f.offset).run P w = .ok v w ∧ ∀ e : Bool, (Instr.checkKey e m f.type v).run P w = .ok () w
theorem check_fields {kt : TypeId} {fl : Array Field} {xs' : Array Value} {m : Nat} (hu : P.underlying kt = some (.struct fl)) (h : ∀ f ∈ fl.toList, FieldCk P w xs' m f) (e : Bool) : (Instr.checkKey e (m + 1) kt (.agg xs')).run P w = .ok () w := by
  unfold Instr.checkKey
  simp only [Sem.run_bind, run_underlying hu, Result.andThen_ok]
  rw [← Array.forIn_toList]
  rw [run_forIn_unit]
  · simp [Result.andThen, Sem.run_pure]
  · intro f hf'
    obtain ⟨g1, v, g2, g3⟩ := h f hf'
    simp only [if_pos (show f.name ≠ "_" from g1), Sem.run_bind, g2, g3, Result.andThen_ok, Sem.run_pure]
def SubCk (P : Program) (ι : Nat → Loc) (s : Store) (w : World) (sub : List Field → Option (List EK)) (d0 : Nat) : Prop := ∀ (gs : List Field) (ks : List EK) (xs : List AV) (xs' : Array Value) (m : Nat), d0 ≤ m → sub gs = some ks → (eqCells ks xs xs).isSome = true → (∀ (j : Nat) x, xs[j]? = some x → ∃ x', xs'[0 + j]? = some x' ∧ VR ι s w x x') → ∀ f ∈ gs, FieldCk P w xs' m f
/-- A struct's fields are checked: numbers, bools and strings, structs of these. -/
theorem checkStep {sub : List Field → Option (List EK)} {d0 : Nat} (hsub : SubCk P ι s w sub d0) : ∀ {fs : List Field} {i : Nat} {ks : List EK} {xs : List AV} {xs' : Array Value} (m : Nat), d0 ≤ m → ekStep P sub i fs = some ks → (eqCells ks xs xs).isSome = true → (∀ (j : Nat) x, xs[j]? = some x → ∃ x', xs'[i + j]? = some x' ∧ VR ι s w x x') →
    ∀ f ∈ fs, FieldCk P w xs' (m + 1) f
  | [], _, _, _, _, _, _, _, _, _, f, hf => absurd hf List.not_mem_nil
  | g :: fs, i, ks, xs, xs', m, hm, h, hs, hx, f, hf => by
    simp only [ekStep] at h
    split at h
    · cases h
    rename_i hname
    split at h
    rotate_left
    · cases h
    rename_i hoff
    have rest : ∀ (ks1 : List EK) (x : AV) (xs1 : List AV), ekStep P sub (i + 1) fs = some ks1 → xs = x :: xs1 → (eqCells ks1 xs1 xs1).isSome = true → f ∈ fs → FieldCk P w xs' (m + 1) f := fun ks1 x xs1 h1 h2 h3 h4 =>
      checkStep hsub m hm h1 h3 (fun j y hj => by
        have := hx (j + 1) y (by rw [h2]; simpa using hj)
        rwa [show i + (j + 1) = i + 1 + j by omega] at this) f h4
    have one : ∀ (a : AV) (xs1 : List AV) (v : Value), xs = a :: xs1 → aggOf P g.type = some false → (∀ x', VR ι s w a x' → x' = v) → (∀ e : Bool, (Instr.checkKey e (m + 1) g.type v).run P w = .ok () w) → FieldCk P w xs' (m + 1) g := by
      intro a xs1 v e1 hag hv hck
      subst e1
      obtain ⟨x', hx1, hx2⟩ := hx 0 _ rfl
      obtain rfl := hv x' hx2
      rw [Nat.add_zero] at hx1
      exact ⟨hname, x', by simp only [part, Sem.run_bind, run_agg hag, hoff, hx1, Result.andThen_ok, Sem.run_pure, Bool.false_eq_true, if_false], hck⟩
    have iss : ∀ {o : Option Bool} {c : Bool}, (o.map fun r => c && r).isSome = true → o.isSome = true := fun {o c} q => by cases o <;> simp_all
    split at h
    · rename_i hu
      obtain ⟨ks1, hek, rfl⟩ := Option.map_eq_some_iff.1 h
      cases xs with
      | nil => simp [eqCells] at hs
      | cons a xs1 =>
        cases a <;> simp only [eqCells] at hs <;> try (cases hs; done)
        rename_i p
        rcases List.mem_cons.1 hf with rfl | hf
        · exact one _ _ (.bool p) rfl (by unfold aggOf; rw [hu]) (fun x' hx' => by cases hx'; rfl) (fun e => by unfold Instr.checkKey; simp only [Sem.run_bind, run_underlying hu, Result.andThen_ok]; rfl)
        · exact rest _ _ _ hek rfl (iss hs) hf
    · rename_i k hu
      obtain ⟨ks1, hek, rfl⟩ := Option.map_eq_some_iff.1 h
      cases xs with
      | nil => simp [eqCells] at hs
      | cons a xs1 =>
        cases a <;> simp only [eqCells] at hs <;> try (cases hs; done)
        rename_i k1 p
        simp only [if_true] at hs
        rcases List.mem_cons.1 hf with rfl | hf
        · exact one _ _ (.int k1 p) rfl (by unfold aggOf; rw [hu]) (fun x' hx' => by cases hx'; rfl) (fun e => by unfold Instr.checkKey; simp only [Sem.run_bind, run_underlying hu, Result.andThen_ok]; rfl)
        · exact rest _ _ _ hek rfl (iss hs) hf
    · rename_i hu
      obtain ⟨ks1, hek, rfl⟩ := Option.map_eq_some_iff.1 h
      cases xs with
      | nil => simp [eqCells] at hs
      | cons a xs1 =>
        cases a <;> simp only [eqCells] at hs <;> try (cases hs; done)
        rename_i p
        rcases List.mem_cons.1 hf with rfl | hf
        · exact one _ _ (.string p) rfl (by unfold aggOf; rw [hu]) (fun x' hx' => by cases hx'; rfl) (fun e => by unfold Instr.checkKey; simp only [Sem.run_bind, run_underlying hu, Result.andThen_ok]; rfl)
        · exact rest _ _ _ hek rfl (iss hs) hf
    · rename_i gs hu
      split at h
      · rename_i ks1 hks1
        split at h
        · rename_i hcond
          obtain ⟨ks2, hek, rfl⟩ := Option.map_eq_some_iff.1 h
          obtain ⟨b, hb⟩ := Option.isSome_iff_exists.1 hs
          obtain ⟨b1, b2, g1, g2, rfl⟩ := eqCells_app hb
          rcases List.mem_cons.1 hf with rfl | hf
          · refine ⟨hname, .agg (xs'.extract i (i + ks1.length)), by rw [hoff]; exact part_agg hu hcond.2 xs' w, fun e => check_fields hu (hsub gs.toList ks1 (xs.take ks1.length) _ m hm hks1 (by rw [g1]; rfl) (get_part (n := ks1.length) hx)) e⟩
          · exact checkStep hsub m hm hek (by rw [g2]; rfl) (fun j x hj => by
              rw [List.getElem?_drop] at hj
              have := hx _ x hj
              rwa [show i + (ks1.length + j) = i + ks1.length + j by omega] at this) f hf
        · cases h
      · cases h
    · cases h
theorem checkFields : ∀ (n : Nat) {fs : List Field} {i : Nat} {ks : List EK} {xs : List AV} {xs' : Array Value} (m : Nat), n ≤ m → ekFields P n i fs = some ks → (eqCells ks xs xs).isSome = true → (∀ (j : Nat) x, xs[j]? = some x → ∃ x', xs'[i + j]? = some x' ∧ VR ι s w x x') → ∀ f ∈ fs, FieldCk P w xs' (m + 1) f
  | 0, fs, i, ks, xs, xs', m, hm, h, hs, hx => checkStep (d0 := 0) (sub := fun _ => none) (fun gs ks xs xs' m _ q => by cases q) m (Nat.zero_le _) h hs hx
  | n + 1, fs, i, ks, xs, xs', m, hm, h, hs, hx => checkStep (d0 := n + 1) (sub := fun gs => ekFields P n 0 gs) (fun gs ks xs xs' m hm q q1 q2 => by
      obtain ⟨m1, rfl⟩ : ∃ m1, m = m1 + 1 := ⟨m - 1, by omega⟩
      exact checkFields n m1 (by omega) q q1 q2) m hm h hs hx
theorem agg_get {vs : List AV} {vs' : Array Value} (h : VR ι s w (.agg vs) (.agg vs')) : ∀ (j : Nat) x, vs[j]? = some x → ∃ x', vs'[0 + j]? = some x' ∧ VR ι s w x x' := by
  cases h with
  | agg h1 h2 h3 =>
    intro j x hj
    have hjl := (List.getElem?_eq_some_iff.1 hj).1
    have : vs'[j]? = some (vs'[j]'(by omega)) := Array.getElem?_eq_getElem (by omega)
    exact ⟨_, by rw [Nat.zero_add]; exact this, h2 j x _ hj this⟩
theorem check_sound {kt : TypeId} {kd : EK} {key : AV} {key' : Value} (hkd : keyKind P kt = some kd) (hf : keyFits kd key = true) (hk : VR ι s w key key') (e : Bool) : (Instr.checkKey e 10000 kt key').run P w = .ok () w := by
  show (Instr.checkKey e (9999 + 1) kt key').run P w = _
  rcases keyKind_of hkd with ⟨d, hu, hd⟩ | ⟨ks, fl, rfl, he, hu, hks⟩
  · generalize 9999 = m
    unfold Instr.checkKey
    simp only [Sem.run_bind, run_underlying hu, Result.andThen_ok]
    cases hk <;> cases kd <;> simp [keyFits] at hf <;> cases d <;> simp [kindFits] at hd <;> rfl
  · cases hk <;> simp only [keyFits] at hf <;> try (cases hf; done)
    rename_i xs xs' h1 h2 h3
    exact check_fields (m := 9999) hu (checkFields 4 9998 (by decide) hks hf (agg_get (.agg h1 h2 h3))) e

theorem cellEq_sound {d : TypeDesc} {kd : EK} {key k : AV} {key' k' : Value} {b : Bool} (hd : kindFits d kd = true) (hf : keyFits kd key = true) (h : cellEq key k = some b) (hk : VR ι s w key key') (hk2 : VR ι s w k k') : Instr.sameNow d key' k' = some b ∧ (b = true → Instr.sameBits 10000 k' key' = true) := by
  unfold cellEq at h
  split at h
  · split at h
    · rename_i he
      subst he
      cases hk; cases hk2
      obtain rfl := Option.some.inj h
      cases kd <;> simp [keyFits] at hf
      cases d <;> simp [kindFits] at hd
      refine ⟨by simp [Instr.sameNow], fun e => ?_⟩
      simp at e
      subst e
      unfold Instr.sameBits; simp
    · cases h
  · rename_i p q
    cases hk; cases hk2
    obtain rfl := Option.some.inj h
    cases kd <;> simp [keyFits] at hf
    cases d <;> simp [kindFits] at hd
    refine ⟨by simp [Instr.sameNow], fun e => ?_⟩
    have e1 : (p.data == q.data) = true := e
    have e2 : p.data = q.data := by simpa using e1
    unfold Instr.sameBits
    show (q.data == p.data) = true
    rw [e2]; simp
  · rename_i p q
    cases hk; cases hk2
    obtain rfl := Option.some.inj h
    cases kd <;> simp [keyFits] at hf
    cases d <;> simp [kindFits] at hd
    refine ⟨by simp [Instr.sameNow], fun e => ?_⟩
    unfold Instr.sameBits
    cases p <;> cases q <;> first | rfl | cases e
  · cases h
theorem keyEq_plain {d : TypeDesc} {kd : EK} {key k : AV} (hd : kindFits d kd = true) : keyEq key k kd = cellEq key k := by
  cases kd <;> first | (cases d <;> simp [kindFits] at hd; done) | (unfold keyEq; split <;> first | rfl | simp_all)
theorem bits_cells (n : Nat) : ∀ {ks : List EK} {xs ys : List AV} {xs' ys' : List Value}, eqCells ks xs ys = some true → VRs ι s w xs xs' → VRs ι s w ys ys' → ((ys'.zip xs').all fun (x, y) => Instr.sameBits n x y) = true
  | [], xs, ys, xs', ys', h, hx, hy => by
    cases xs <;> cases ys <;> simp [eqCells] at h
    have : ys' = [] := List.length_eq_zero_iff.1 hy.1.symm
    subst this
    rfl
  | k :: ks, [], ys, xs', ys', h, _, _ => by cases k <;> simp [eqCells] at h
  | k :: ks, x :: xs, [], xs', ys', h, _, _ => by cases k <;> cases x <;> simp [eqCells] at h
  | k :: ks, x :: xs, y :: ys, [], ys', h, hx, _ => by have := hx.1; simp at this
  | k :: ks, x :: xs, y :: ys, x' :: xs', [], h, _, hy => by have := hy.1; simp at this
  | k :: ks, x :: xs, y :: ys, x' :: xs', y' :: ys', h, hx, hy => by
    have h1 := hx.2 0 x x' rfl rfl
    have h2 := hy.2 0 y y' rfl rfl
    have hx1 : VRs ι s w xs xs' := by simpa using hx.drop 1
    have hy1 : VRs ι s w ys ys' := by simpa using hy.drop 1
    have fin : ∀ {c : Bool}, (eqCells ks xs ys).map (fun r => c && r) = some true → c = true ∧ ((ys'.zip xs').all fun (x, y) => Instr.sameBits n x y) = true := fun {c} q => by
      obtain ⟨r1, q1, q2⟩ := Option.map_eq_some_iff.1 q
      simp only [Bool.and_eq_true] at q2
      rw [q2.2] at q1
      exact ⟨q2.1, bits_cells n q1 hx1 hy1⟩
    simp only [List.zip_cons_cons, List.all_cons, Bool.and_eq_true]
    cases k <;> cases x <;> cases y <;> simp only [eqCells] at h <;> try (cases h; done)
    · obtain ⟨g1, g2⟩ := fin h
      cases h1; cases h2
      refine ⟨?_, g2⟩
      simp at g1
      subst g1
      unfold Instr.sameBits; simp
    · split at h
      · rename_i hkk
        subst hkk
        obtain ⟨g1, g2⟩ := fin h
        cases h1; cases h2
        refine ⟨?_, g2⟩
        simp at g1
        subst g1
        unfold Instr.sameBits; simp
      · cases h
    · rename_i p q
      obtain ⟨g1, g2⟩ := fin h
      cases h1; cases h2
      refine ⟨?_, g2⟩
      have e2 : p.data = q.data := by simpa using (show (p.data == q.data) = true from g1)
      unfold Instr.sameBits
      show (q.data == p.data) = true
      rw [e2]; simp
theorem struct_equal {t : TypeId} {ks : List EK} {xs ys : List AV} {b : Bool} {xs' ys' : Array Value} (he : ekOf P t = some (.struct ks)) (hb : eqCells ks xs ys = some b) (hx : VR ι s w (.agg xs) (.agg xs')) (hy : VR ι s w (.agg ys) (.agg ys')) : (Op.equal t (.agg xs') (.agg ys')).run P w = .ok b w := by
  unfold ekOf at he
  split at he <;> try (cases he; done)
  rename_i fl hu
  split at he
  · rename_i hcond
    obtain ⟨ks', hks, hke⟩ := Option.map_eq_some_iff.1 he
    injection hke with hke
    subst hke
    have hff : P.fieldsOf t = fl := by simp [Program.fieldsOf, hu]
    have hrun := eqFields_sound 4 (xs' := xs') (ys' := ys') 9998 (by decide) hks hb (agg_get hx) (agg_get hy)
    show (Op.equalIn 10000 t (.agg xs') (.agg ys')).run P w = .ok b w
    rw [run_equalIn_struct w 9999 t xs' ys' (by rw [hff]; exact hu) hcond.1, hff]
    exact hrun
  · cases he

/-- The entry of a key is found. -/
def FoundQ (P : Program) (ι : Nat → Loc) (s : Store) (w : World) (kt : TypeId) (key' : Value) (es : List (AV × AV)) (ents : List MapEntry) (i : Nat) (run : Sem (Option (Nat × Value))) (res : Option (Nat × AV)) : Prop :=
  (res = none ∧ run.run P w = .ok none w) ∨ (∃ j v e, res = some (i + j, v) ∧ j < es.length ∧ ents[j]? = some e ∧ VR ι s w v e.val ∧ run.run P w = .ok (some (i + j, e.val)) w ∧ Instr.sameBits 10000 e.key key' = true)
theorem findNow_sound {d : TypeDesc} {kd : EK} {key : AV} {key' : Value} (hd : kindFits d kd = true) (hf : keyFits kd key = true) (hk : VR ι s w key key') : ∀ {es : List (AV × AV)} {ents : List MapEntry} {i : Nat} {res : Option (Nat × AV)}, findAt kd key es i = some res → es.length = ents.length →
    (∀ (j : Nat) k v, es[j]? = some (k, v) → ∃ e, ents[j]? = some e ∧ VR ι s w k e.key ∧ VR ι s w v e.val) →
    (res = none ∧ Instr.findNow d key' ents i = some none) ∨ (∃ j v e, res = some (i + j, v) ∧ j < es.length ∧ ents[j]? = some e ∧ VR ι s w v e.val ∧ Instr.findNow d key' ents i = some (some (i + j, e.val)) ∧ Instr.sameBits 10000 e.key key' = true)
  | [], ents, i, res, h, hl, _ => by
    obtain rfl := Option.some.inj h
    have : ents = [] := List.length_eq_zero_iff.1 hl.symm
    subst this
    exact .inl ⟨rfl, rfl⟩
  | (k, v) :: es, [], i, res, h, hl, _ => by simp at hl
  | (k, v) :: es, e :: ents, i, res, h, hl, hp => by
    obtain ⟨e', he, h1, h2⟩ := hp 0 k v rfl
    simp only [List.getElem?_cons_zero, Option.some.injEq] at he
    subst he
    simp only [findAt, keyEq_plain hd] at h
    split at h
    · rename_i hb
      obtain rfl := Option.some.inj h
      obtain ⟨k1, k2⟩ := cellEq_sound hd hf hb hk h1
      exact .inr ⟨0, v, e, rfl, by simp, rfl, h2, by simp [Instr.findNow, k1], k2 rfl⟩
    · rename_i hb
      obtain ⟨k1, _⟩ := cellEq_sound hd hf hb hk h1
      rcases findNow_sound hd hf hk (es := es) (ents := ents) h (by simpa using hl) (fun j k v hj => by
        obtain ⟨e2, g1, g2⟩ := hp (j + 1) k v (by simpa using hj)
        exact ⟨e2, by simpa using g1, g2⟩) with ⟨h3, h4⟩ | ⟨j, v2, e2, h3, h4, h5, h6, h7, h8⟩
      · exact .inl ⟨h3, by simp [Instr.findNow, k1, h4]⟩
      · refine .inr ⟨j + 1, v2, e2, ?_, by simp; omega, by simpa using h5, h6, ?_, h8⟩
        · rw [h3]; congr 2; omega
        · simp only [Instr.findNow, k1]
          rw [h7]; congr 2; congr 1; omega
    · cases h
theorem findAsk_sound {kt : TypeId} {ks : List EK} {xs : List AV} {xs' : Array Value} (he : ekOf P kt = some (.struct ks)) (hk : VR ι s w (.agg xs) (.agg xs')) : ∀ {es : List (AV × AV)} {ents : List MapEntry} {i : Nat} {res : Option (Nat × AV)}, findAt (.struct ks) (.agg xs) es i = some res → es.length = ents.length →
    (∀ (j : Nat) k v, es[j]? = some (k, v) → ∃ e, ents[j]? = some e ∧ VR ι s w k e.key ∧ VR ι s w v e.val) → FoundQ P ι s w kt (.agg xs') es ents i (Instr.findAsking kt (.agg xs') ents i) res
  | [], ents, i, res, h, hl, _ => by
    obtain rfl := Option.some.inj h
    have : ents = [] := List.length_eq_zero_iff.1 hl.symm
    subst this
    exact .inl ⟨rfl, by simp [Instr.findAsking]⟩
  | (k, v) :: es, [], i, res, h, hl, _ => by simp at hl
  | (k, v) :: es, e :: ents, i, res, h, hl, hp => by
    obtain ⟨e', he', h1, h2⟩ := hp 0 k v rfl
    simp only [List.getElem?_cons_zero, Option.some.injEq] at he'
    subst he'
    have key : ∀ {b : Bool}, keyEq (.agg xs) k (.struct ks) = some b → ∃ ys ys', k = .agg ys ∧ e.key = .agg ys' ∧ eqCells ks xs ys = some b ∧ VR ι s w (.agg ys) (.agg ys') := fun {b} hb => by
      unfold keyEq at hb
      split at hb
      · rename_i a1 a2 a3 xs0 ys ks0 e2 e3
        injection e2 with e2
        injection e3 with e3
        subst e2; subst e3
        generalize hq : e.key = q at h1
        cases h1
        exact ⟨ys, _, rfl, rfl, hb, by constructor <;> assumption⟩
      · unfold cellEq at hb
        split at hb <;> first | (cases hb; done) | simp_all
    simp only [findAt] at h
    split at h
    · rename_i hb
      obtain rfl := Option.some.inj h
      obtain ⟨ys, ys', rfl, g2, g3, g4⟩ := key hb
      have hr := struct_equal he g3 hk g4
      refine .inr ⟨0, v, e, rfl, by simp, rfl, h2, by simp [Instr.findAsking, g2, hr], ?_⟩
      rw [g2]
      cases hk with
      | agg a1 a2 a3 =>
        cases g4 with
        | agg b1 b2 b3 =>
          have hx : VRs ι s w xs xs'.toList := ⟨by simpa using a1, fun i x y hx hy => a2 i x y hx (by simpa using hy)⟩
          have hy : VRs ι s w ys ys'.toList := ⟨by simpa using b1, fun i x y hx hy => b2 i x y hx (by simpa using hy)⟩
          have hz := bits_cells 9999 g3 hx hy
          have hlen : ∀ {ks : List EK} {xs ys : List AV} {b : Bool}, eqCells ks xs ys = some b → xs.length = ys.length := by
            intro ks
            induction ks with
            | nil => intro xs ys b q; cases xs <;> cases ys <;> simp [eqCells] at q ⊢
            | cons k ks ih =>
              intro xs ys b q
              cases xs with
              | nil => cases k <;> simp [eqCells] at q
              | cons x xs =>
                cases ys with
                | nil => cases k <;> cases x <;> simp [eqCells] at q
                | cons y ys =>
                  simp only [List.length_cons, Nat.add_right_cancel_iff]
                  cases k <;> cases x <;> cases y <;> simp only [eqCells] at q <;> try (cases q; done)
                  · obtain ⟨_, q1, _⟩ := Option.map_eq_some_iff.1 q; exact ih q1
                  · split at q
                    · obtain ⟨_, q1, _⟩ := Option.map_eq_some_iff.1 q; exact ih q1
                    · cases q
                  · obtain ⟨_, q1, _⟩ := Option.map_eq_some_iff.1 q; exact ih q1
          have hl2 := hlen g3
          unfold Instr.sameBits
          simp only [Bool.and_eq_true, beq_iff_eq]
          exact ⟨by omega, hz⟩
    · rename_i hb
      obtain ⟨ys, ys', rfl, g2, g3, g4⟩ := key hb
      have hr := struct_equal he g3 hk g4
      rcases findAsk_sound he hk (es := es) (ents := ents) h (by simpa using hl) (fun j k v hj => by
        obtain ⟨e2, g1, g2⟩ := hp (j + 1) k v (by simpa using hj)
        exact ⟨e2, by simpa using g1, g2⟩) with ⟨h3, h4⟩ | ⟨j, v2, e2, h3, h4, h5, h6, h7, h8⟩
      · exact .inl ⟨h3, by simp [Instr.findAsking, g2, hr, h4]⟩
      · refine .inr ⟨j + 1, v2, e2, ?_, by simp; omega, by simpa using h5, h6, ?_, h8⟩
        · rw [h3]; congr 2; omega
        · simp [Instr.findAsking, g2, hr, h7]; omega
    · cases h
theorem findKey_sound {kt : TypeId} {kd : EK} {key : AV} {key' : Value} (hkd : keyKind P kt = some kd) (hf : keyFits kd key = true) (hk : VR ι s w key key') {es : List (AV × AV)} {ents : List MapEntry} {res : Option (Nat × AV)} (h : findAt kd key es 0 = some res) (hl : es.length = ents.length)
    (hp : ∀ (j : Nat) k v, es[j]? = some (k, v) → ∃ e, ents[j]? = some e ∧ VR ι s w k e.key ∧ VR ι s w v e.val) : FoundQ P ι s w kt key' es ents 0 (Instr.findKey kt key' ents) res := by
  rcases keyKind_of hkd with ⟨d, hu, hd⟩ | ⟨ks, fl, rfl, he, hu, hks⟩
  · rcases findNow_sound hd hf hk h hl hp with ⟨h1, h2⟩ | ⟨j, v, e, h1, h2, h3, h4, h5, h6⟩
    · exact .inl ⟨h1, MapKept.run_findKey hu h2⟩
    · exact .inr ⟨j, v, e, h1, h2, h3, h4, MapKept.run_findKey hu h5, h6⟩
  · cases hk <;> simp only [keyFits] at hf <;> try (cases hf; done)
    rename_i xs xs' h1 h2 h3
    have hs := findAsk_sound he (.agg h1 h2 h3) h hl hp
    have hrun : ∀ {q}, (Instr.findAsking kt (.agg xs') ents 0).run P w = .ok q w → (Instr.findKey kt (.agg xs') ents).run P w = .ok q w := fun {q} hq => by
      unfold Instr.findKey
      simp only [Sem.run_bind, run_underlying hu, Result.andThen_ok]
      cases ents with
      | nil =>
        simp only [Instr.findNow]
        simp [Instr.findAsking] at hq
        simp [hq]
      | cons e ents =>
        have : Instr.findNow (.struct fl) (.agg xs') (e :: ents) 0 = none := by
          simp only [Instr.findNow, Instr.sameNow]
        rw [this]
        exact hq
    rcases hs with ⟨g1, g2⟩ | ⟨j, v, e, g1, g2, g3, g4, g5, g6⟩
    · exact .inl ⟨g1, hrun g2⟩
    · exact .inr ⟨j, v, e, g1, g2, g3, g4, hrun g5, g6⟩

theorem map_of (hW : WR B w0 ι s w) {l rr : Nat} {es : List (AV × AV)} {st : List Nat × Nat} (hl : l < s.next) (ha : (s.get l).size = 1 → rr = (ι l).b) (hg : s.get l = .map es st) :
    rr = (ι l).b ∧ ∃ (ents : Array MapEntry) (clock : Nat), w.heap[rr]? = some (.map ents clock) ∧ B ≤ rr ∧ es.length = ents.size ∧ (∀ (i : Nat) k v, es[i]? = some (k, v) → ∃ e, ents[i]? = some e ∧ VR ι s w k e.key ∧ VR ι s w v e.val) ∧ st = (ents.toList.map (·.born), clock) := by
  have e := ha (by rw [hg]; rfl)
  have := hW.obj l hl
  rw [hg] at this
  obtain ⟨ents, clock, h1, h2, h3, h4, h5⟩ := this
  exact ⟨e, ents, clock, by rw [e]; exact h1, by rw [e]; exact h2, h3, h4, h5⟩

theorem zero_sound {t : TypeId} {z : AV} (h : zeroOf P t = some z) (w : World) : ∃ z', (zeroValue t).run P w = .ok z' w ∧ VR ι s w z z' := by
  unfold zeroOf at h
  cases hi : P.info? t with
  | none => rw [hi] at h; simp at h
  | some i =>
    rw [hi] at h
    simp only [Option.bind_some] at h
    cases hz : i.zero with
    | none => rw [hz] at h; simp at h
    | some zz =>
      rw [hz] at h
      refine ⟨zz, run_zero hi hz w, ?_⟩
      split at h
      · rename_i cs hcs
        injection hcs with hcs
        subst hcs
        split at h
        · rename_i hone
          obtain rfl := Option.some.inj h
          have := (vrs_ofVal ι s w cs.toList).agg (fun y hy => by
            have := List.all_eq_true.1 hone y hy
            cases y <;> simp_all [Value.oneCell'])
          simpa using this
        · cases h
      · rename_i v hcs hv
        injection hv with hv
        subst hv
        obtain rfl := Option.some.inj h
        exact ofVal_sound _ _ _ _
      · cases h

theorem lookup_sound {t kt e : TypeId} {kd : EK} {z m key : AV} {m' key' : Value} {ok : Bool} {f : AV → Option α} (hu : P.underlying t = some (.map kt e)) (hkd : keyKind P kt = some kd) (hz : zeroOf P e = some z) (h : aLookup kd z ok m key s f = some r)
    (hm : VR ι s w m m') (hk : VR ι s w key key') (hW : WR B w0 ι s w) : ∃ v v', f v = some r ∧ (Instr.lookup t m' key' ok).run P w = .ok v' w ∧ VR ι s w v v' := by
  obtain ⟨z', hz1, hz2⟩ := zero_sound (ι := ι) (s := s) hz w
  have two : ∀ (v : AV) (v' : Value) (b : Bool), VR ι s w v v' → VR ι s w (bif ok then .tuple [v, .bool b] else v) (if ok then .tuple #[v', .bool b] else v') := fun v v' b hv => by
    cases ok
    · exact hv
    · exact VRs.tup (ys := [v', .bool b]) (.cons hv (.cons (.bool b) (.nil _ _ _)))
  unfold aLookup aFind at h
  split at h
  · rename_i hf
    have hck := fun b => check_sound (P := P) hkd hf hk b
    split at h
    · cases hm
      refine ⟨_, _, h, ?_, two _ _ _ hz2⟩
      rcases findKey_sound hkd hf hk (es := []) (ents := []) (res := none) rfl rfl (fun j k v hj => by simp at hj) with ⟨_, h5⟩ | ⟨j, v, en, h0, _⟩
      · simp [Instr.lookup, run_underlying hu, hck, h5, hz1]
      · cases h0
    · rename_i l
      split at h
      · rename_i es st hg
        split at h
        · rename_i res hres
          cases hm with
          | map hl he ha =>
            obtain ⟨hr, ents, clock, h1, h2, h3, h4, _⟩ := map_of hW hl ha hg
            rcases findKey_sound hkd hf hk (ents := ents.toList) hres (by simpa using h3) (by simpa using h4) with ⟨rfl, h5⟩ | ⟨j, v, en, rfl, h5, h6, h7, h8, h9⟩
            · refine ⟨_, _, h, ?_, two _ _ _ hz2⟩
              simp [Instr.lookup, run_underlying hu, hck, MapKept.run_getObj_map h1, h5, hz1]
            · refine ⟨_, _, h, ?_, two _ _ _ h7⟩
              simp [Instr.lookup, run_underlying hu, hck, MapKept.run_getObj_map h1, h8]
        · cases h
      · cases h
    · cases h
  · cases h

theorem map_set (hW : WR B w0 ι s w) {l : Nat} {es es' : List (AV × AV)} {st st' : List Nat × Nat} (hl : l < s.next) (hg : s.get l = .map es st) {ents : Array MapEntry} {clock : Nat} {ents' : Array MapEntry} {clock' : Nat} (hb : w.heap[(ι l).b]? = some (.map ents clock)) (hB : B ≤ (ι l).b)
    (hlen : es'.length = ents'.size) (hes : ∀ (i : Nat) k v, es'[i]? = some (k, v) → ∃ e, ents'[i]? = some e ∧ VR ι s w k e.key ∧ VR ι s w v e.val) (hst : st' = (ents'.toList.map (·.born), clock')) :
    WR B w0 ι (s.set l (.map es' st')) { w with heap := w.heap.setIfInBounds (ι l).b (.map ents' clock') } ∧ Later ι s w ι (s.set l (.map es' st')) { w with heap := w.heap.setIfInBounds (ι l).b (.map ents' clock') } := by
  have hs1 := (MapKept.heap_set (o' := .map ents' clock') hb).1
  have hs2 := (MapKept.heap_set (o' := .map ents' clock') hb).2
  have := hW.update hl (by rw [hg]; rfl) hB (.map es' st') (ι l) (by rw [hg]; exact Nat.le_refl _) (fun _ => rfl) (w' := { w with heap := w.heap.setIfInBounds (ι l).b (.map ents' clock') }) rfl rfl rfl (by simp)
    (fun b _ hne => hs2 b hne) (by unfold bsz; simp only [hs1, hb]) (.inl rfl) (fun k => ⟨ents', clock', hs1, hB, hlen, fun i kk v hi => by
      obtain ⟨e, g1, g2, g3⟩ := hes i kk v hi
      exact ⟨e, g1, g2.later k, g3.later k⟩, hst⟩)
  rw [upd_self] at this
  exact this

/-- What is known where a map's entries are changed. -/
structure AtQ (P : Program) (B : Nat) (ι : Nat → Loc) (s : Store) (w : World) (kt : TypeId) (m' key' : Value) (l : Nat) (es : List (AV × AV)) (st : List Nat × Nat) (ents : Array MapEntry) (clock : Nat) (res : Option (Nat × AV)) : Prop where
  m : m' = .map (some (ι l).b)
  lt : l < s.next
  g : s.get l = .map es st
  hb : w.heap[(ι l).b]? = some (.map ents clock)
  hB : B ≤ (ι l).b
  len : es.length = ents.size
  ok : ∀ (i : Nat) k v, es[i]? = some (k, v) → ∃ e, ents[i]? = some e ∧ VR ι s w k e.key ∧ VR ι s w v e.val
  st : st = (ents.toList.map (·.born), clock)
  ck : ∀ b, (Instr.checkKey b 10000 kt key').run P w = .ok () w
  find : (res = none ∧ (Instr.findKey kt key' ents.toList).run P w = .ok none w) ∨ ∃ j v e, res = some (j, v) ∧ j < es.length ∧ ents[j]? = some e ∧ VR ι s w v e.val ∧ (Instr.findKey kt key' ents.toList).run P w = .ok (some (j, e.val)) w ∧ Instr.sameBits 10000 e.key key' = true
theorem mapAt_sound {kt : TypeId} {kd : EK} {m key : AV} {m' key' : Value} {f : Nat → List (AV × AV) → List Nat × Nat → Option (Nat × AV) → Option α} (hkd : keyKind P kt = some kd) (h : aMapAt kd m key s f = some r)
    (hm : VR ι s w m m') (hk : VR ι s w key key') (hW : WR B w0 ι s w) : ∃ l es st ents clock res, f l es st res = some r ∧ AtQ P B ι s w kt m' key' l es st ents clock res := by
  unfold aMapAt at h
  split at h
  · rename_i hf
    split at h
    · rename_i l
      split at h
      · rename_i es st hg
        split at h
        · rename_i res hres
          cases hm with
          | map hl he ha =>
            obtain ⟨hr, ents, clock, h1, h2, h3, h4, h5⟩ := map_of hW hl ha hg
            subst hr
            refine ⟨l, es, st, ents, clock, res, h, rfl, hl, hg, h1, h2, h3, h4, h5, fun b => check_sound hkd hf hk b, ?_⟩
            rcases findKey_sound hkd hf hk (ents := ents.toList) hres (by simpa using h3) (by simpa using h4) with q | ⟨j, v, e, g1, g2, g3, g4, g5, g6⟩
            · exact .inl q
            · rw [Nat.zero_add] at g1 g5
              exact .inr ⟨j, v, e, g1, g2, by simpa using g3, g4, g5, g6⟩
        · cases h
      · cases h
    · cases h
  · cases h
theorem born_modify (ents : Array MapEntry) (i : Nat) (g : MapEntry → MapEntry) (hg : ∀ e, (g e).born = e.born) : (ents.modify i g).toList.map (·.born) = ents.toList.map (·.born) := by
  refine List.ext_getElem? fun j => ?_
  rw [List.getElem?_map, List.getElem?_map, Array.getElem?_toList, Array.getElem?_toList, Array.getElem?_modify]
  split
  · cases ents[j]? <;> simp [hg]
  · rfl
theorem at_put {kt : TypeId} {m' key' x' : Value} {key x : AV} {l i : Nat} {es : List (AV × AV)} {st : List Nat × Nat} {ents : Array MapEntry} {clock : Nat} {v : AV} {en : MapEntry} (hq : AtQ P B ι s w kt m' key' l es st ents clock (some (i, v))) (hk : VR ι s w key key') (hx : VR ι s w x x') (hi : i < es.length) (he : ents[i]? = some en) (hW : WR B w0 ι s w) :
    WR B w0 ι (s.set l (.map (es.set i (key, x)) st)) { w with heap := w.heap.setIfInBounds (ι l).b (.map (ents.modify i fun e => { e with key := key', val := x' }) clock) } ∧ Later ι s w ι (s.set l (.map (es.set i (key, x)) st)) { w with heap := w.heap.setIfInBounds (ι l).b (.map (ents.modify i fun e => { e with key := key', val := x' }) clock) } :=
  map_set hW hq.lt hq.g hq.hb hq.hB (by simp [hq.len]) (fun q k v hq' => by
    rw [List.getElem?_set] at hq'
    by_cases eq : i = q
    · subst eq
      rw [if_pos rfl, if_pos hi] at hq'
      obtain ⟨rfl, rfl⟩ := Prod.mk.inj (Option.some.inj hq')
      exact ⟨{ en with key := key', val := x' }, by rw [Array.getElem?_modify, if_pos rfl, he]; rfl, hk, hx⟩
    · rw [if_neg eq] at hq'
      obtain ⟨e2, g1, g2⟩ := hq.ok q k v hq'
      exact ⟨e2, by rw [Array.getElem?_modify, if_neg eq]; exact g1, g2⟩) (by rw [hq.st]; exact congrArg (·, clock) (born_modify ents i (fun e => { e with key := key', val := x' }) fun _ => rfl).symm)
theorem at_push {kt : TypeId} {m' key' x' : Value} {key x : AV} {l : Nat} {es : List (AV × AV)} {st : List Nat × Nat} {ents : Array MapEntry} {clock : Nat} {res : Option (Nat × AV)} (hq : AtQ P B ι s w kt m' key' l es st ents clock res) (hk : VR ι s w key key') (hx : VR ι s w x x') (hW : WR B w0 ι s w) :
    WR B w0 ι (s.set l (.map (es ++ [(key, x)]) (st.1 ++ [st.2], st.2 + 1))) { w with heap := w.heap.setIfInBounds (ι l).b (.map (ents.push { key := key', val := x', born := clock }) (clock + 1)) } ∧ Later ι s w ι (s.set l (.map (es ++ [(key, x)]) (st.1 ++ [st.2], st.2 + 1))) { w with heap := w.heap.setIfInBounds (ι l).b (.map (ents.push { key := key', val := x', born := clock }) (clock + 1)) } :=
  map_set hW hq.lt hq.g hq.hb hq.hB (by simp [hq.len]) (fun q k v hq' => by
    have h3 := hq.len
    by_cases eq : q < es.length
    · rw [List.getElem?_append_left eq] at hq'
      obtain ⟨e2, g1, g2⟩ := hq.ok q k v hq'
      exact ⟨e2, by rw [Array.getElem?_push, if_neg (by omega)]; exact g1, g2⟩
    · rw [List.getElem?_append_right (by omega)] at hq'
      have hq0 : q - es.length = 0 := by
        have := (List.getElem?_eq_some_iff.1 hq').1
        simp at this; omega
      rw [hq0] at hq'
      obtain ⟨rfl, rfl⟩ := Prod.mk.inj (Option.some.inj hq')
      exact ⟨_, by rw [Array.getElem?_push, if_pos (by omega)], hk, hx⟩) (by rw [hq.st]; simp)

theorem mapUpdate_sound {t kt e : TypeId} {kd : EK} {m key x : AV} {m' key' x' : Value} {f : Store → Option α} (hu : P.underlying t = some (.map kt e)) (hkd : keyKind P kt = some kd) (h : aMapUpdate kd m key x s f = some r)
    (hm : VR ι s w m m') (hk : VR ι s w key key') (hx : VR ι s w x x') (hW : WR B w0 ι s w) : ∃ s' w' ι', f s' = some r ∧ (Instr.mapUpdate t m' key' x').run P w = .ok () w' ∧ WR B w0 ι' s' w' ∧ Later ι s w ι' s' w' := by
  obtain ⟨l, es, st, ents, clock, res, h, hq⟩ := mapAt_sound hkd h hm hk hW
  have h1 := hq.hb
  obtain rfl := hq.m
  rcases hq.find with ⟨rfl, h5⟩ | ⟨i, v, en, rfl, h5, h6, h7, h8, h9⟩
  · obtain ⟨hW', hL'⟩ := at_push hq hk hx hW
    refine ⟨_, _, ι, h, ?_, hW', hL'⟩
    simp [Instr.mapUpdate, run_underlying hu, hq.ck, MapKept.run_getObj_map h1, h5, MapKept.run_setObj_map _ h1]
  · obtain ⟨hW', hL'⟩ := at_put hq hk hx h5 h6 hW
    refine ⟨_, _, ι, h, ?_, hW', hL'⟩
    simp [Instr.mapUpdate, run_underlying hu, hq.ck, MapKept.run_getObj_map h1, h8, h6, Instr.keyThatStays, h9, MapKept.run_setObj_map _ h1]

theorem mapEntry_sound {t kt e : TypeId} {kd : EK} {z m key : AV} {m' key' : Value} (hu : P.underlying t = some (.map kt e)) (hz : zeroOf P e = some z) (hkd : keyKind P kt = some kd) (h : aMapEntry kd z m key s κ = some r)
    (hm : VR ι s w m m') (hk : VR ι s w key key') (hW : WR B w0 ι s w) : Done P call B w0 ι s w (Instr.mapEntry t m' key' >>= fun a => pure (.value a)) κ r := by
  obtain ⟨l, es, st, ents, clock, res, h, hq⟩ := mapAt_sound hkd h hm hk hW
  have h1 := hq.hb
  obtain rfl := hq.m
  obtain ⟨z', hz1, hz2⟩ := zero_sound (ι := ι) (s := s) hz w
  rcases hq.find with ⟨rfl, h5⟩ | ⟨i, v, en, rfl, h5, h6, h7, h8, h9⟩
  · obtain ⟨hW', hL'⟩ := at_push hq hk hz2 hW
    refine .v h ?_ (VRs.tup (ys := [z', .int .i64 clock]) (.cons (hz2.later hL') (.cons (by rw [hq.st]; exact .int _ _) (.nil _ _ _)))) hW' hL'
    simp [Instr.mapEntry, run_underlying hu, hq.ck, MapKept.run_getObj_map h1, h5, hz1, MapKept.run_setObj_map _ h1, goInt]
  · simp only at h
    split at h
    · rename_i b hb
      rw [hq.st] at hb
      have hb2 : b = en.born := by
        simp only [List.getElem?_map, Array.getElem?_toList, h6, Option.map_some, Option.some.injEq] at hb
        exact hb.symm
      subst hb2
      obtain ⟨hW', hL'⟩ := at_put hq hk h7 h5 h6 hW
      have hmod : (ents.modify i fun e => { e with key := key' }) = ents.modify i fun e => { e with key := key', val := en.val } := by
        apply Array.ext (by simp)
        intro j j1 j2
        rw [Array.getElem_modify, Array.getElem_modify]
        split
        · rename_i hij
          subst hij
          have := Array.getElem?_eq_some_iff.1 h6
          obtain ⟨_, this⟩ := this
          rw [this]
        · rfl
      refine .v h ?_ (VRs.tup (ys := [en.val, .int .i64 en.born]) (.cons (h7.later hL') (.cons (.int _ _) (.nil _ _ _)))) hW' hL'
      simp [Instr.mapEntry, run_underlying hu, hq.ck, MapKept.run_getObj_map h1, h8, h6, Instr.keyThatStays, h9, MapKept.run_setObj_map _ h1, hmod, goInt]
    · cases h

theorem entryStore_sound {t : TypeId} {m sp x : AV} {m' sp' x' : Value} {f : Store → Option α} (h : aEntryStore m sp x s f = some r) (hm : VR ι s w m m') (hsp : VR ι s w sp sp') (hx : VR ι s w x x') (hW : WR B w0 ι s w) :
    ∃ s' w' ι', f s' = some r ∧ (Instr.entryStore t m' sp' x').run P w = .ok () w' ∧ WR B w0 ι' s' w' ∧ Later ι s w ι' s' w' := by
  unfold aEntryStore at h
  split at h
  · rename_i l kk b
    cases hsp
    split at h
    · rename_i es st hg
      cases hm with
      | map hl he ha =>
        obtain ⟨hr, ents, clock, h1, h2, h3, h4, h5⟩ := map_of hW hl ha hg
        subst hr
        split at h
        · rename_i i hi
          split at h
          · rename_i k v hv
            have hil := (List.getElem?_eq_some_iff.1 hv).1
            obtain ⟨en, g1, g2, g3⟩ := h4 i k v hv
            obtain ⟨hW', hL'⟩ := map_set hW (es' := es.set i (k, x)) (st' := st) hl hg (ents' := ents.modify i fun e => { e with val := x' }) (clock' := clock) h1 h2 (by simp [h3]) (fun q k2 v2 hq => by
              rw [List.getElem?_set] at hq
              by_cases eq : i = q
              · subst eq
                rw [if_pos rfl, if_pos hil] at hq
                obtain ⟨rfl, rfl⟩ := Prod.mk.inj (Option.some.inj hq)
                exact ⟨{ en with val := x' }, by rw [Array.getElem?_modify, if_pos rfl, g1]; rfl, g2, hx⟩
              · rw [if_neg eq] at hq
                obtain ⟨e2, g1, g2⟩ := h4 q k2 v2 hq
                exact ⟨e2, by rw [Array.getElem?_modify, if_neg eq]; exact g1, g2⟩) (by rw [h5]; exact congrArg (·, clock) (born_modify ents i (fun e => { e with val := x' }) fun _ => rfl).symm)
            have hfi : ents.findIdx? (fun e => (e.born : Int) == b) = some i := by
              rw [← Array.toArray_toList (xs := ents), List.findIdx?_toArray]
              rw [h5] at hi
              simp only [List.findIdx?_map] at hi
              exact hi
            refine ⟨_, _, ι, h, ?_, hW', hL'⟩
            simp [Instr.entryStore, MapKept.run_getObj_map h1, asInt, asIntOf, hfi, MapKept.run_setObj_map _ h1]
          · cases h
        · cases h
    · cases h
  · cases h

theorem delete_sound {t kt e : TypeId} {kd : EK} {m key : AV} {m' key' : Value} {ts : Array TypeId} {xs : Array Value} {ty : TypeId} {f : Store → Option α} (hts : ts[0]? = some t) (hx0 : xs[0]? = some m') (hx1 : xs[1]? = some key') (hu : P.underlying t = some (.map kt e)) (hkd : keyKind P kt = some kd) (h : aDelete kd m key s f = some r)
    (hm : VR ι s w m m') (hk : VR ι s w key key') (hW : WR B w0 ι s w) : ∃ s' w' ι', f s' = some r ∧ (Builtin.delete_ ts ty xs).run P w = .ok (.tuple #[]) w' ∧ WR B w0 ι' s' w' ∧ Later ι s w ι' s' w' := by
  unfold aDelete at h
  split at h
  · rename_i hf
    have hck := fun b => check_sound (P := P) hkd hf hk b
    split at h
    · cases hm
      exact ⟨_, _, ι, h, by simp [Builtin.delete_, hts, hx0, hx1, run_underlying hu, hck], hW, Later.refl _ _ _⟩
    · rename_i l
      split at h
      · rename_i es st hg
        cases hm with
        | map hl he ha =>
          obtain ⟨hr, ents, clock, h1, h2, h3, h4, hst⟩ := map_of hW hl ha hg
          subst hr
          split at h
          · rename_i i v hres
            rcases findKey_sound hkd hf hk (ents := ents.toList) hres (by simpa using h3) (by simpa using h4) with ⟨h5, _⟩ | ⟨j, v, en, h0, h5, h6, h7, h8, h9⟩
            · cases h5
            · obtain ⟨e1, e2⟩ := Prod.mk.inj (Option.some.inj h0)
              subst e2
              have e1' : i = j := by omega
              subst e1'
              have hi : i < ents.size := by omega
              obtain ⟨hW', hL'⟩ := map_set hW (es' := es.eraseIdx i) (st' := (st.1.eraseIdx i, st.2)) hl hg (ents' := ents.eraseIdxIfInBounds i) (clock' := clock) h1 h2 (by
                rw [Array.eraseIdxIfInBounds, dif_pos hi, Array.size_eraseIdx, List.length_eraseIdx, if_pos h5, h3]) (fun q k v hq => by
                rw [Array.eraseIdxIfInBounds, dif_pos hi, Array.getElem?_eraseIdx]
                rw [List.getElem?_eraseIdx] at hq
                split at hq
                · rename_i hlt; rw [if_pos hlt]; exact h4 q k v hq
                · rename_i hlt; rw [if_neg hlt]; exact h4 (q + 1) k v hq) (by
                rw [hst, Array.eraseIdxIfInBounds, dif_pos hi, Array.toList_eraseIdx]
                refine congrArg (·, clock) (List.ext_getElem? fun j => ?_)
                simp only [List.getElem?_eraseIdx, List.getElem?_map]
                split <;> rfl)
              refine ⟨_, _, ι, h, ?_, hW', hL'⟩
              simp only [Nat.zero_add] at h8
              simp [Builtin.delete_, hts, hx0, hx1, run_underlying hu, hck, MapKept.run_getObj_map h1, h8, MapKept.run_setObj_map _ h1]
          · rename_i hres
            rcases findKey_sound hkd hf hk (ents := ents.toList) hres (by simpa using h3) (by simpa using h4) with ⟨_, h5⟩ | ⟨j, v, en, h0, _⟩
            · obtain ⟨hW', hL'⟩ := map_set hW (es' := es) (st' := st) hl hg (ents' := ents) (clock' := clock) h1 h2 h3 h4 hst
              have hsame : s.set l (.map es st) = s := by
                unfold Store.set
                congr 1
                funext j
                split
                · rename_i e; rw [e, hg]
                · rfl
              rw [hsame] at hW' hL'
              refine ⟨_, _, ι, h, ?_, hW', hL'⟩
              simp [Builtin.delete_, hts, hx0, hx1, run_underlying hu, hck, MapKept.run_getObj_map h1, h5, MapKept.run_setObj_map _ h1]
            · cases h0
          · cases h
      · cases h
    · cases h
  · cases h
end
end Go.Proofs.Ytkfdgegmahbkiaa.Sim
namespace Go.Proofs.Ytkfdgegmahbkiaa.Sim
set_option linter.unusedVariables false
open Go.RowKit (Below)
set_option linter.unusedSimpArgs false
section
variable {P : Program} {call : CallA} {B : Nat} {w0 : World} {ι : Nat → Loc} {s : Store} {w : World} {α : Type} {r : α} {κ : AV → Store → Option α}

theorem alloc_sound {t : TypeId} {zs : List AV} (hz : zerosOf P t = some zs) (h : aNew zs s κ = some r) (hW : WR B w0 ι s w) : Done P call B w0 ι s w (Instr.alloc t true (.tuple #[]) >>= fun a => pure (.value a)) κ r := by
  obtain ⟨i, z, hi, hzz, rfl, hone⟩ := zeros_of hz
  rcases new_sound (P := P) (call := call) t (vs := z.cells) h (vrs_ofVal ι s w z.cells.toList) hone hW with ⟨v, s', nx, v', w', ι', h1, h2, h3⟩ | ⟨g, args, args', v, s', h1, _⟩
  · refine .inl ⟨v, s', nx, v', w', ι', h1, ?_, h3⟩
    rw [Sem.run_bind, Instr.alloc, Sem.run_bind, run_zero hi hzz]
    rw [Sem.run_bind] at h2
    exact h2
  · simp [newRow] at h1

theorem box_sound {t : TypeId} {x : AV} {x' : Value} (h : (aCells x fun cs => aNew cs s κ) = some r) (hx : VR ι s w x x') (hW : WR B w0 ι s w) : Done P call B w0 ι s w (Instr.box t x' >>= fun a => pure (.value a)) κ r := by
  obtain ⟨cs, hk, hcs, hone⟩ := aCells_sound h hx
  exact new_sound (P := P) (call := call) t (vs := x'.cells) hk hcs hone hW

theorem mapM_sz (P : Program) (fs : List Field) : (fs.mapM fun f => (szOf P f.type).map fun n => (f.offset, n)) = fs.mapM (fun f => (P.info? f.type).map fun i => (f.offset, i.size)) := by
  congr 1
  funext f
  simp [szOf, Function.comp_def]

theorem builds_sound {t : TypeId} {zs : List AV} {pl : Nat → Option (Nat × Nat)} {ρ : Operand → AV} {ρ' : Operand → Value} {parts : Array (Nat × Operand)} {ps : List (Nat × Nat × AV)} {f : List AV → Option α} (hz : zerosOf P t = some zs) (hpl : placeOf P t = some pl) (hps : partsOf pl ρ parts.toList = some ps)
    (h : aBuild ps zs f = some r) (hρ : ∀ x, VR ι s w (ρ x) (ρ' x)) : ∃ cs c, f cs = some r ∧ (Instr.build t (parts.map fun (i, x) => (i, ρ' x))).run P w = .ok (.agg c) w ∧ VRs ι s w cs c.toList ∧ ∀ y ∈ c.toList, y.oneCell' = true := by
  obtain ⟨i, z, hi, hzz, rfl, hone⟩ := zeros_of hz
  obtain ⟨hl, hq⟩ := parts_of hρ hps
  obtain ⟨cs, c, h1, h2, h3, h4⟩ := build_sound (pl := pl) h (vrs_ofVal ι s w z.cells.toList) hone hl hq
  refine ⟨cs, c, h1, ?_, h3, h4⟩
  apply run_build
  have hto : (parts.map fun (i, x) => (i, ρ' x)).toList = parts.toList.map fun p => (p.1, ρ' p.2) := by simp
  rw [hto]
  unfold placeOf at hpl
  unfold Program.built
  split at hpl
  · rename_i fs hu
    obtain ⟨l, hl, rfl⟩ := Option.map_eq_some_iff.1 hpl
    rw [mapM_sz] at hl
    simp only [hi, hu, hzz, hl]
    simpa using h2
  · rename_i n e hu
    obtain ⟨n', hn, rfl⟩ := Option.map_eq_some_iff.1 hpl
    obtain ⟨ie, hie, rfl⟩ := size_of hn
    simp only [hi, hu, hzz, hie]
    exact h2
  · cases hpl

theorem buildSlice_core {t e : TypeId} {n c : Nat} {zs : List AV} {ρ : Operand → AV} {ρ' : Operand → Value} {parts : Array (Nat × Operand)} {f : List AV → Option α} (hu : P.underlying t = some (.slice e)) (hz : zerosOf P e = some zs) (hc : szOf P e = some c) (hn : n * c ≤ 16777216 ∧ zs.length = c)
    (h : aBuild (parts.toList.map fun p => (p.1 * c, c, ρ p.2)) (List.replicate n zs).flatten f = some r) (hρ : ∀ x, VR ι s w (ρ x) (ρ' x)) :
    ∃ cs cc, f cs = some r ∧ cs.length = n * c ∧ cc.size = n * c ∧ VRs ι s w cs cc.toList ∧ (∀ y ∈ cc.toList, y.oneCell' = true) ∧ (Instr.buildSlice t n (parts.map fun (i, x) => (i, ρ' x))).run P w = .ok (.slice (some ⟨w.heap.size, 0, none⟩) n n) (w.alloc (.cells cc e)) := by
  obtain ⟨i, z, hi, hzz, rfl, hone⟩ := zeros_of hz
  have hzl : z.cells.toList.length = c := by simpa using hn.2
  have hbase : (madeCells (if n * c = 0 then #[] else z.cells) (n * c)).toList = (List.replicate n z.cells.toList).flatten := by
    by_cases h0 : n * c = 0
    · rw [if_pos h0, h0]
      have : (List.replicate n z.cells.toList).flatten.length = 0 := by simp at hzl; simp [hzl, h0]
      rw [List.length_eq_zero_iff.1 this]
      simp [madeCells]
    · rw [if_neg h0]
      have hp : 0 < z.cells.toList.length := by rw [hzl]; exact Nat.pos_of_ne_zero (fun q => h0 (by rw [q]; simp))
      have := madeCells_take (zs := z.cells.toList) (n := n) (m := n) (Nat.le_refl _) hp
      rw [hzl] at this
      rw [← this, List.take_of_length_le (by simp [madeCells])]
  have hq : ∀ (j : Nat) p q, (parts.toList.map fun p => (p.1 * c, c, ρ p.2))[j]? = some p → (parts.toList.map fun p => (p.1, ρ' p.2))[j]? = some q → (fun i => some (i * c, c)) q.1 = some (p.1, p.2.1) ∧ VR ι s w p.2.2 q.2 := by
    intro j p q hp hq
    rw [List.getElem?_map] at hp hq
    cases hj : parts.toList[j]? with
    | none => rw [hj] at hp; cases hp
    | some x =>
      rw [hj] at hp hq
      simp only [Option.map_some, Option.some.injEq] at hp hq
      subst hp; subst hq
      exact ⟨rfl, hρ _⟩
  obtain ⟨cs, cc, h1, h2, h3, h4⟩ := build_sound (pl := fun i => some (i * c, c)) (c := madeCells (if n * c = 0 then #[] else z.cells) (n * c)) h (by rw [hbase]; exact (vrs_ofVal ι s w z.cells.toList).replicate n) (by
    rw [hbase]
    intro y hy
    obtain ⟨l, hl1, hl2⟩ := List.mem_flatten.1 hy
    rw [(List.mem_replicate.1 hl1).2] at hl2
    exact hone y hl2) (qs := parts.toList.map fun p => (p.1, ρ' p.2)) (by simp) hq
  have hcs : cs.length = n * c := by
    have hb : ∀ (ps : List (Nat × Nat × AV)) (cs0 : List AV) (f : List AV → Option α), aBuild ps cs0 f = some r → ∃ cs1, f cs1 = some r ∧ cs1.length = cs0.length := by
      intro ps
      induction ps with
      | nil => intro cs0 f hf; exact ⟨cs0, hf, rfl⟩
      | cons p ps ih =>
        intro cs0 f hf
        obtain ⟨o, sz, x⟩ := p
        simp only [aBuild] at hf
        have : ∃ vs, (if vs.length = sz ∧ o + sz ≤ cs0.length then aBuild ps (putAll cs0 o vs) f else none) = some r := by
          unfold aCells at hf
          split at hf
          · exact ⟨_, hf⟩
          · cases hf
          · cases hf
          · exact ⟨_, hf⟩
        obtain ⟨vs, hv⟩ := this
        split at hv
        · obtain ⟨cs1, k1, k2⟩ := ih _ _ hv
          exact ⟨cs1, k1, by rw [k2, putAll_length]⟩
        · cases hv
    have hfill : ∀ (qs : List (Nat × Value)) (pl : Nat → Option (Nat × Nat)) (c0 c1 : Array Value), Instr.fill pl c0 qs = some c1 → c1.size = c0.size := by
      intro qs
      induction qs with
      | nil => intro pl c0 c1 hf; simp only [Instr.fill] at hf; rw [Option.some.inj hf]
      | cons q qs ih =>
        intro pl c0 c1 hf
        obtain ⟨i, v⟩ := q
        simp only [Instr.fill] at hf
        split at hf
        · cases hf
        · split at hf
          · cases hf
          · rw [ih _ _ _ hf]
            rename_i hz1
            rw [← Array.foldl_toList]
            generalize v.cells.zipIdx.toList = l
            clear hf hz1
            induction l generalizing c0 with
            | nil => rfl
            | cons a l ih2 => rw [List.foldl_cons, ih2]; simp
    have := hfill _ _ _ _ h2
    have h3l := h3.1
    rw [size_madeCells] at this
    simp at h3l
    omega
  have hcc : cc.size = n * c := by have := h3.1; simp at this; omega
  refine ⟨cs, cc, h1, hcs, hcc, h3, h4, ?_⟩
  have hto : (parts.map fun (i, x) => (i, ρ' x)).toList = parts.toList.map fun p => (p.1, ρ' p.2) := by simp
  have hlim : ¬ n * c > 2 ^ 24 := by omega
  by_cases h0 : n * c = 0
  · rw [if_pos h0] at h2
    simp only [madeCells] at h2
    simp only [Instr.buildSlice, Sem.run_bind, run_underlying hu, Result.andThen_ok, run_size hc, Sem.run_ite, if_neg hlim, Sem.run_pure, if_pos h0, hto, h2, newRow, run_newObj]
    rfl
  · rw [if_neg h0] at h2
    simp only [madeCells] at h2
    simp only [Instr.buildSlice, Sem.run_bind, run_underlying hu, Result.andThen_ok, run_size hc, Sem.run_ite, if_neg hlim, Sem.run_pure, if_neg h0, run_zero hi hzz, hto, h2, newRow, run_newObj]
    rfl

theorem buildSlice_sound {t e : TypeId} {n c : Nat} {zs : List AV} {ρ : Operand → AV} {ρ' : Operand → Value} {parts : Array (Nat × Operand)} (hu : P.underlying t = some (.slice e)) (hz : zerosOf P e = some zs) (hc : szOf P e = some c) (hn : n * c ≤ 16777216 ∧ zs.length = c)
    (h : (aBuild (parts.toList.map fun p => (p.1 * c, c, ρ p.2)) (List.replicate n zs).flatten fun cs => κ (.sl s.next 0 n c (n * c)) (s.push (.cells cs false))) = some r) (hρ : ∀ x, VR ι s w (ρ x) (ρ' x)) (hW : WR B w0 ι s w) :
    Done P call B w0 ι s w (Instr.buildSlice t n (parts.map fun (i, x) => (i, ρ' x)) >>= fun a => pure (.value a)) κ r := by
  obtain ⟨cs, cc, h1, hcs, hcc, h3, h4, hrun⟩ := buildSlice_core (P := P) hu hz hc hn h hρ
  obtain ⟨ι', h5, h6, h7⟩ := push_cells hW (cs := cs) (c := cc) e (0, 0) false (w' := w.alloc (.cells cc e)) rfl rfl rfl rfl (by rw [List.take_of_length_le (by rw [h3.1]; exact Nat.le_refl _)]; exact h3) (by rw [List.take_of_length_le (by rw [h3.1]; exact Nat.le_refl _)]; exact h4) (fun _ => rfl)
  exact .v h1 hrun (new_sl h7 (c := cc) rfl hcs.symm (Nat.le_refl _) (by omega) (by omega)) h5 h6

theorem len_sound {x : AV} {x' : Value} {f : AV → Option α} {ts : Array TypeId} {xs : Array Value} {ty t e : TypeId} (hts : ts[0]? = some t) (hx0 : xs[0]? = some x') (hu : P.underlying t = some (.slice e)) (h : aLen x f = some r) (hx : VR ι s w x x') :
    ∃ v v', f v = some r ∧ (Builtin.len_ ts ty xs).run P w = .ok v' w ∧ VR ι s w v v' := by
  unfold aLen at h
  split at h
  · cases hx; exact ⟨_, _, h, by simp [Builtin.len_, hts, hx0, run_underlying hu, goInt], .int _ _⟩
  · cases hx; exact ⟨_, _, h, by simp [Builtin.len_, hts, hx0, run_underlying hu, goInt], .int _ _⟩
  · cases h

theorem zeroCells_flat {z : Array Value} {n : Nat} (hz : 0 < z.size) : (Builtin.zeroCells z n).toList = (List.replicate n z.toList).flatten := by
  have h := madeCells_take (zs := z.toList) (n := n) (m := n) (Nat.le_refl _) (by simpa using hz)
  rw [← h]
  rw [List.take_of_length_le (by simp [madeCells])]
  simp [Builtin.zeroCells, madeCells]

theorem appendMake_sound {t u e ty : TypeId} {ku : IntKind} {i : TypeInfo} {z : Value} {x y : AV} {x' y' : Value} {κ : AV → Store → Option α} (ht : P.underlying t = some (.slice e)) (hu : P.underlying u = some (.int ku)) (he : ElemOk P e i z)
    (h : aAppendMake (z.cells.toList.map ofVal) i.size i.bytes x y s κ = some r) (hx : VR ι s w x x') (hy : VR ι s w y y') (hW : WR B w0 ι s w) :
    ∃ v s' v' w' ι', κ v s' = some r ∧ (Builtin.append_ #[t, u] ty #[x', y']).run P w = .ok v' w' ∧ VR ι' s' w' v v' ∧ WR B w0 ι' s' w' ∧ Later ι s w ι' s' w' := by
  unfold aAppendMake at h
  split at h
  · rename_i k n
    cases hx; cases hy
    split at h
    · rename_i h0
      subst h0
      have w0' : IntKind.i64.wrap 0 = 0 := by rfl
      refine ⟨_, _, .slice none 0 0, w, ι, h, ?_, .nilsl, hW, Later.refl _ _ _⟩
      simp [Builtin.append_, run_underlying ht, run_underlying hu, sizeOf, Go.run_typeInfo _ he.info, asInt, asIntOf, w0']
    · rename_i h0
      split at h
      · rename_i hb
        obtain ⟨h1, h2, h3, h4, h5⟩ := hb
        obtain ⟨m, rfl⟩ : ∃ m : Nat, n = (m : Int) := ⟨n.toNat, by omega⟩
        rw [Int.toNat_natCast] at h
        have hm : 0 < m := by omega
        have hw : IntKind.i64.wrap (m : Int) = (m : Int) := by
          simp [IntKind.wrap, IntKind.bits, IntKind.signed]; omega
        have hmb : m * i.bytes ≤ 140737488355328 := by
          have : ((m * i.bytes : Nat) : Int) ≤ 140737488355328 := by rw [Int.natCast_mul]; exact h3
          omega
        have hrun : ∃ cap, m ≤ cap ∧ (Builtin.append_ #[t, u] ty #[.slice none 0 0, .int k (m : Int)]).run P w =
            .ok (.slice (some ⟨w.heap.size, 0, none⟩) m cap) (w.drew.alloc (.cells (#[] ++ Builtin.zeroCells z.cells m ++ Builtin.zeroCells z.cells (cap - m)) e)) := by
          refine ⟨(Question.appendCap m 0 e).cut (w.tape w.drawn (.appendCap m 0 e)), by simp [Question.cut], ?_⟩
          have q1 : ¬ (9223372036854775807 : Int) < (m : Int) := by omega
          have q2 : ¬ 281474976710656 < Builtin.nextslicecap m 0 * i.bytes := by
            have := Nat.mul_le_mul_right i.bytes (nextslicecap_le m 0 (by omega))
            rw [Nat.mul_assoc] at this
            omega
          have q3 : (Question.appendCap m 0 e).forced = false := rfl
          have q4 : ¬ (281474976710656 : Int) < (m : Int) * (i.bytes : Int) := by
            have : ((m * i.bytes : Nat) : Int) ≤ 140737488355328 := by omega
            rw [Int.natCast_mul] at this
            omega
          have q5 : ¬ (m : Int) < 0 := by omega
          have q6 : ¬ m ≤ 0 := by omega
          have q7 : ¬ m = 0 := by omega
          have q8 : ¬ m * i.size = 0 := Nat.ne_of_gt (Nat.mul_pos hm h5)
          simp [Builtin.append_, Builtin.firstCells, run_underlying ht, run_underlying hu, sizeOf, Go.run_typeInfo _ he.info, asInt, asIntOf, hw, q1, q2, q3, q4, q5, q6, q7, q8, zeroValue, he.zero, newRow]
        obtain ⟨cap, hcap, hrun⟩ := hrun
        generalize hc : (#[] ++ Builtin.zeroCells z.cells m ++ Builtin.zeroCells z.cells (cap - m)) = c at hrun
        have hzs : z.cells.size = i.size := he.size
        have hlen : (List.replicate m (z.cells.toList.map ofVal)).flatten.length = m * i.size := by simp [hzs]
        have hl2 : (List.replicate m z.cells.toList).flatten.length = m * i.size := by simp [hzs]
        have hcs : c.toList.take (List.replicate m (z.cells.toList.map ofVal)).flatten.length = (List.replicate m z.cells.toList).flatten := by
          rw [← hc, hlen]
          simp only [Array.toList_append, List.nil_append]
          rw [zeroCells_flat (n := m) (by omega), List.take_left' hl2]
        have hsz : c.size = cap * i.size := by
          rw [← hc]
          simp only [Array.size_append, zeroCells_size, hzs, List.size_toArray, List.length_nil]
          rw [Nat.zero_add, ← Nat.add_mul]; congr 1; omega
        obtain ⟨ι', h5', h6, h7⟩ := push_cells hW (cs := (List.replicate m (z.cells.toList.map ofVal)).flatten) (c := c) e (0, 0) false (w' := w.drew.alloc (.cells c e)) rfl rfl rfl rfl (by rw [hcs]; exact (vrs_ofVal ι s w z.cells.toList).replicate _) (by
          rw [hcs]
          intro y hy
          obtain ⟨l, hl1, hl2⟩ := List.mem_flatten.1 hy
          rw [(List.mem_replicate.1 hl1).2] at hl2
          exact he.one y hl2) (fun _ => rfl)
        exact ⟨_, _, _, _, ι', h, hrun, new_sl h7 (c := c) rfl hlen.symm (by omega) (by rw [hsz]; exact Nat.le_refl _) (by rw [hlen]; exact Nat.mul_le_mul_right _ hcap), h5', h6⟩
      · cases h
  · cases h

theorem cap_sound {x : AV} {x' : Value} {f : AV → Option α} {ts : Array TypeId} {xs : Array Value} {ty t e : TypeId} (hts : ts[0]? = some t) (hx0 : xs[0]? = some x') (hu : P.underlying t = some (.slice e)) (h : aCap x f = some r) (hx : VR ι s w x x') :
    ∃ v v', f v = some r ∧ (Builtin.cap_ ts ty xs).run P w = .ok v' w ∧ VR ι s w v v' := by
  unfold aCap at h
  split at h
  · cases hx; exact ⟨_, _, h, by simp [Builtin.cap_, hts, hx0, run_underlying hu, goInt], .int _ _⟩
  · cases h

theorem lenStr_sound {x : AV} {x' : Value} {f : AV → Option α} {ts : Array TypeId} {xs : Array Value} {ty t : TypeId} (hts : ts[0]? = some t) (hx0 : xs[0]? = some x') (hu : P.underlying t = some .string) (h : aLenStr x f = some r) (hx : VR ι s w x x') :
    ∃ v v', f v = some r ∧ (Builtin.len_ ts ty xs).run P w = .ok v' w ∧ VR ι s w v v' := by
  unfold aLenStr at h
  split at h
  · cases hx; exact ⟨_, _, h, by simp [Builtin.len_, hts, hx0, run_underlying hu, goInt], .int _ _⟩
  · cases h

theorem lenMap_sound {x : AV} {x' : Value} {f : AV → Option α} {ts : Array TypeId} {xs : Array Value} {ty t kt e : TypeId} (hts : ts[0]? = some t) (hx0 : xs[0]? = some x') (hu : P.underlying t = some (.map kt e)) (h : aLenMap x s f = some r) (hx : VR ι s w x x') (hW : WR B w0 ι s w) :
    ∃ v v', f v = some r ∧ (Builtin.len_ ts ty xs).run P w = .ok v' w ∧ VR ι s w v v' := by
  unfold aLenMap at h
  split at h
  · cases hx; exact ⟨_, _, h, by simp [Builtin.len_, hts, hx0, run_underlying hu, goInt], .int _ _⟩
  · split at h
    · rename_i es st hg
      cases hx with
      | map hl he ha =>
        obtain ⟨hr, ents, clock, h1, h2, h3, h4, _⟩ := map_of hW hl ha hg
        refine ⟨_, .int .i64 ents.size, h, ?_, ?_⟩
        · simp [Builtin.len_, hts, hx0, run_underlying hu, goInt, MapKept.run_getObj_map h1]
        · rw [h3]; exact .int _ _
    · cases h
  · cases h

theorem maxL_sound : ∀ {xs : List AV} {x : AV} {x' : Value} {xs' : List Value} {f : AV → Option α}, aMaxL x xs f = some r → VR ι s w x x' → VRs ι s w xs xs' → ∃ v v', f v = some r ∧ (xs'.foldlM Builtin.max2 x').run P w = .ok v' w ∧ VR ι s w v v'
  | [], x, x', xs', f, h, hx, hxs => by
    have : xs' = [] := List.length_eq_zero_iff.1 hxs.1.symm
    subst this
    exact ⟨_, _, h, rfl, hx⟩
  | y :: xs, x, x', [], f, h, hx, hxs => by have := hxs.1; simp at this
  | y :: xs, x, x', y' :: xs', f, h, hx, hxs => by
    simp only [aMaxL, aMax2] at h
    split at h
    · have hy := hxs.2 0 _ _ rfl rfl
      cases hx; cases hy
      obtain ⟨v, v', h1, h2, h3⟩ := maxL_sound h (.int _ _) (by simpa using hxs.drop 1)
      exact ⟨v, v', h1, by rw [List.foldlM_cons, Sem.run_bind]; exact h2, h3⟩
    · cases h
theorem minL_sound : ∀ {xs : List AV} {x : AV} {x' : Value} {xs' : List Value} {f : AV → Option α}, aMinL x xs f = some r → VR ι s w x x' → VRs ι s w xs xs' → ∃ v v', f v = some r ∧ (xs'.foldlM Builtin.min2 x').run P w = .ok v' w ∧ VR ι s w v v'
  | [], x, x', xs', f, h, hx, hxs => by
    have : xs' = [] := List.length_eq_zero_iff.1 hxs.1.symm
    subst this
    exact ⟨_, _, h, rfl, hx⟩
  | y :: xs, x, x', [], f, h, hx, hxs => by have := hxs.1; simp at this
  | y :: xs, x, x', y' :: xs', f, h, hx, hxs => by
    simp only [aMinL, aMin2] at h
    split at h
    · have hy := hxs.2 0 _ _ rfl rfl
      cases hx; cases hy
      obtain ⟨v, v', h1, h2, h3⟩ := minL_sound h (.int _ _) (by simpa using hxs.drop 1)
      exact ⟨v, v', h1, by rw [List.foldlM_cons, Sem.run_bind]; exact h2, h3⟩
    · cases h

/-- Calls that answer are calls of functions with bodies. -/
def Bodied (P : Program) (call : CallA) : Prop := MethFine P ∧ ∀ g args s q, call g args s = some q → ∃ fn, P.funcs[g]? = some fn ∧ (fn.name == "runtime.NumGoroutine") = false ∧ fn.body.isNone = false

theorem call_sound {f : AV} {f' : Value} {args : List AV} {args' : Array Value} (hB : Bodied P call) (h : aCall call f args s κ = some r) (hf : VR ι s w f f') (ha : VRs ι s w args args'.toList) :
    Done P call B w0 ι s w (Deferred.ofValue f' args' >>= fun d => invoke d.target d.args) κ r := by
  unfold aCall at h
  split at h
  · rename_i g first cap
    cases hf with
    | func h1 h2 h3 h4 =>
      rename_i first' cap'
      cases hc : call g (first ++ args ++ cap) s with
      | none => rw [hc] at h; cases h
      | some q =>
        rw [hc] at h
        obtain ⟨fn, k1, k2, k3⟩ := hB.2 _ _ _ _ hc
        refine .inr ⟨g, first ++ args ++ cap, first' ++ args' ++ cap', q.1, q.2, ?_, ?_, hc, h⟩
        · have k2' : ¬ fn.name = "runtime.NumGoroutine" := by simpa using k2
          have k3' : ¬ fn.body = none := by intro e; rw [e] at k3; cases k3
          simp [Deferred.ofValue, invoke, callFunc, k1, k2', k3']
        · have e1 : VRs ι s w first first'.toList := ⟨by simpa using h1, fun i x y hx hy => h2 i x y hx (by simpa using hy)⟩
          have e2 : VRs ι s w cap cap'.toList := ⟨by simpa using h3, fun i x y hx hy => h4 i x y hx (by simpa using hy)⟩
          have := (e1.append ha).append e2
          simpa using this
  · cases h
/-! ### what goes through maps and strings; methods; assertions -/
theorem obj_set (hW : WR B w0 ι s w) {l : Nat} {o' : AObj} {O O' : Obj} (hl : l < s.next) (hwr : (s.get l).wr = true) (h1 : (s.get l).size = 1) (h2 : o'.size = 1) (hb : w.heap[(ι l).b]? = some O) (hB : B ≤ (ι l).b) (hO : ∀ c ty fz, O ≠ .cells c ty fz) (hO' : ∀ c ty fz, O' ≠ .cells c ty fz)
    (ho : Later ι s w ι (s.set l o') { w with heap := w.heap.setIfInBounds (ι l).b O' } → OR B ι (s.set l o') { w with heap := w.heap.setIfInBounds (ι l).b O' } o' (ι l)) :
    WR B w0 ι (s.set l o') { w with heap := w.heap.setIfInBounds (ι l).b O' } ∧ Later ι s w ι (s.set l o') { w with heap := w.heap.setIfInBounds (ι l).b O' } := by
  have hs1 := (MapKept.heap_set (o' := O') hb).1
  have hs2 := (MapKept.heap_set (o' := O') hb).2
  have hz : bsz { w with heap := w.heap.setIfInBounds (ι l).b O' } (ι l).b = bsz w (ι l).b := by
    unfold bsz
    simp only [hs1, hb]
    cases O <;> first | (exact absurd rfl (hO _ _ _)) | (cases O' <;> first | (exact absurd rfl (hO' _ _ _)) | rfl)
  have := hW.update hl hwr hB o' (ι l) (by omega) (fun _ => rfl) (w' := { w with heap := w.heap.setIfInBounds (ι l).b O' }) rfl rfl rfl (by simp) (fun b _ hne => hs2 b hne) hz (.inl rfl) (fun k => by
    rw [upd_self] at k ⊢
    exact ho k)
  rw [upd_self] at this
  exact this
theorem new_it {ι' : Nat → Loc} {o : AObj} {w' : World} (ho : o.size = 1) (hi : ι' s.next = ⟨w.heap.size, 0, 0⟩) : VR ι' (s.push o) w' (.ptr s.next 0 0) (.pointer (some ⟨w.heap.size, 0, none⟩)) := by
  have g : (s.push o).get s.next = o := by simp [Store.push]
  refine .ptr (by simp [Store.push]) (by rw [g, ho]; exact Nat.le_refl _) (fun _ => ?_)
  rw [hi]
  exact ⟨Nat.le_refl _, rfl⟩
theorem rangeMap_sound {t kt e : TypeId} {m : AV} {m' : Value} (hu : P.underlying t = some (.map kt e)) (h : aRangeMap m s κ = some r) (hm : VR ι s w m m') (hW : WR B w0 ι s w) : Done P call B w0 ι s w (Instr.range t m' >>= fun a => pure (.value a)) κ r := by
  unfold aRangeMap at h
  split at h
  · cases hm
    obtain ⟨h5, h6⟩ := hW.push (.miter .nilmap 0 [] 0) ⟨w.heap.size, 0, 0⟩ (w' := { w with heap := w.heap.push (.mapIter none 0 #[] 0) }) rfl rfl rfl (by simp) (fun b hb => by simp only [Array.getElem?_push, if_neg (show ¬ b = w.heap.size by omega)]) (Nat.le_refl _)
      (fun _ => ⟨none, by simp, hW.hB, .nilmap, rfl⟩)
    exact .v h (v' := .pointer (some ⟨w.heap.size, 0, none⟩)) (by simp [Instr.range, run_underlying hu, newObj, Sem.run]) (new_it rfl (by simp)) h5 h6
  · rename_i l
    split at h
    · rename_i es st hg
      cases hm with
      | map hl he ha =>
        rename_i rr
        obtain ⟨hr, ents, clock, h1, h2, h3, h4, hst⟩ := map_of hW hl ha hg
        obtain ⟨h5, h6⟩ := hW.push (.miter (.map l) st.2 [] st.2) ⟨w.heap.size, 0, 0⟩ (w' := { w with heap := w.heap.push (.mapIter (some rr) clock #[] clock) }) rfl rfl rfl (by simp) (fun b hb => by simp only [Array.getElem?_push, if_neg (show ¬ b = w.heap.size by omega)]) (Nat.le_refl _)
          (fun k => ⟨some rr, by rw [hst]; simp, hW.hB, (VR.map hl he ha).later k, rfl⟩)
        refine .v h (v' := .pointer (some ⟨w.heap.size, 0, none⟩)) ?_ (new_it rfl (by simp)) h5 h6
        simp [Instr.range, run_underlying hu, newObj, Sem.run, getObj, h1]
    · cases h
  · cases h
theorem rangeStr_sound {t : TypeId} {x : AV} {x' : Value} (hu : P.underlying t = some .string) (h : aRangeStr x s κ = some r) (hx : VR ι s w x x') (hW : WR B w0 ι s w) : Done P call B w0 ι s w (Instr.range t x' >>= fun a => pure (.value a)) κ r := by
  unfold aRangeStr aStr at h
  split at h
  · rename_i b
    cases hx
    obtain ⟨h5, h6⟩ := hW.push (.siter b 0) ⟨w.heap.size, 0, 0⟩ (w' := { w with heap := w.heap.push (.stringIter b 0) }) rfl rfl rfl (by simp) (fun b hb => by simp only [Array.getElem?_push, if_neg (show ¬ b = w.heap.size by omega)]) (Nat.le_refl _)
      (fun _ => ⟨by simp, hW.hB, rfl⟩)
    exact .v h (v' := .pointer (some ⟨w.heap.size, 0, none⟩)) (by simp [Instr.range, run_underlying hu, newObj, Sem.run]) (new_it rfl (by simp)) h5 h6
  · cases h
theorem it_addr (hW : WR B w0 ι s w) {l : Nat} {p' : Value} (hp : VR ι s w (.ptr l 0 0) p') (h1 : (s.get l).size = 1) (ho : (ι l).o = 0) : l < s.next ∧ p' = .pointer (some ⟨(ι l).b, 0, none⟩) := by
  cases hp with
  | ptr hl he ha =>
    obtain ⟨g1, g2⟩ := ha h1
    refine ⟨hl, ?_⟩
    rw [g2, ho]
    congr 2
    simp
theorem nextStr_sound {p : AV} {p' : Value} {ty : TypeId} (h : aNextStr p s κ = some r) (hp : VR ι s w p p') (hW : WR B w0 ι s w) : Done P call B w0 ι s w (Instr.next p' true ty >>= fun a => pure (.value a)) κ r := by
  unfold aNextStr at h
  split at h
  · rename_i l
    split at h
    · rename_i b pos hg
      have hl0 : l < s.next := by cases hp; assumption
      have ho := hW.obj l hl0
      rw [hg] at ho
      obtain ⟨g1, g2, g3⟩ := ho
      obtain ⟨hl, rfl⟩ := it_addr hW hp (by rw [hg]; rfl) g3
      split at h
      · rename_i hpos
        obtain ⟨h5, h6⟩ := obj_set hW (o' := .siter b (pos + (Utf8.decode b pos).2)) (O' := .stringIter b (pos + (Utf8.decode b pos).2)) hl (by rw [hg]; rfl) (by rw [hg]; rfl) rfl g1 g2 (by simp) (by simp) (fun _ => ⟨(MapKept.heap_set g1).1, g2, g3⟩)
        refine .v h (v' := .tuple #[.bool true, .int .i64 pos, .int .i32 (Utf8.decode b pos).1]) ?_ (VRs.tup (ys := [.bool true, .int .i64 pos, .int .i32 (Utf8.decode b pos).1]) (.cons (.bool _) (.cons (.int _ _) (.cons (.int _ _) (.nil _ _ _))))) h5 h6
        simp [Instr.next, getObj, setObj, Sem.run, g1, hpos, goInt]
      · rename_i hpos
        refine .v0 hW h (v' := .tuple #[.bool false]) ?_ (VRs.tup (ys := [.bool false]) (.cons (.bool _) (.nil _ _ _)))
        simp [Instr.next, getObj, Sem.run, g1, hpos]
    · cases h
  · cases h
theorem zip_filter {es : List (AV × AV)} {ents : List MapEntry} (g : Nat → Bool) (hl : es.length = ents.length) : ∃ es' : List (AV × AV), (es.zip (ents.map (·.born))).filter (fun e => g e.2) = es'.zip ((ents.filter fun e => g e.born).map (·.born)) ∧ es'.length = (ents.filter fun e => g e.born).length ∧
    ((∀ (i : Nat) k v, es[i]? = some (k, v) → ∃ e, ents[i]? = some e ∧ VR ι s w k e.key ∧ VR ι s w v e.val) → ∀ (i : Nat) k v, es'[i]? = some (k, v) → ∃ e, (ents.filter fun e => g e.born)[i]? = some e ∧ VR ι s w k e.key ∧ VR ι s w v e.val) := by
  induction ents generalizing es with
  | nil =>
    have : es = [] := List.length_eq_zero_iff.1 hl
    subst this
    exact ⟨[], rfl, rfl, fun h => h⟩
  | cons e ents ih =>
    cases es with
    | nil => simp at hl
    | cons x es =>
      obtain ⟨es', h1, h2, h3⟩ := ih (es := es) (by simpa using hl)
      have tl : (∀ (i : Nat) k v, (x :: es)[i]? = some (k, v) → ∃ e', (e :: ents)[i]? = some e' ∧ VR ι s w k e'.key ∧ VR ι s w v e'.val) → ∀ (i : Nat) k v, es[i]? = some (k, v) → ∃ e', ents[i]? = some e' ∧ VR ι s w k e'.key ∧ VR ι s w v e'.val := fun q i k v hi => by
        obtain ⟨e', q1, q2⟩ := q (i + 1) k v (by simpa using hi)
        exact ⟨e', by simpa using q1, q2⟩
      by_cases hg : g e.born = true
      · refine ⟨x :: es', ?_, ?_, fun q i k v hi => ?_⟩
        · simp only [List.map_cons, List.zip_cons_cons, List.filter_cons, hg, if_true, h1]
        · simp only [List.filter_cons, hg, if_true, List.length_cons, h2]
        · simp only [List.filter_cons, hg, if_true]
          cases i with
          | zero =>
            obtain ⟨e', q1, q2⟩ := q 0 k v (by simpa using hi)
            exact ⟨e', by simpa using q1, q2⟩
          | succ i =>
            obtain ⟨e', q1, q2⟩ := h3 (tl q) i k v (by simpa using hi)
            exact ⟨e', by simpa using q1, q2⟩
      · refine ⟨es', ?_, ?_, fun q i k v hi => ?_⟩
        · simp only [List.map_cons, List.zip_cons_cons, List.filter_cons, hg, h1]; simp
        · simp only [List.filter_cons, hg, h2]; simp
        · simp only [List.filter_cons, hg]
          exact h3 (tl q) i k v hi
theorem nextMap_sound {p : AV} {p' : Value} {ty : TypeId} (h : aNextMap p s κ = some r) (hp : VR ι s w p p') (hW : WR B w0 ι s w) : Done P call B w0 ι s w (Instr.next p' false ty >>= fun a => pure (.value a)) κ r := by
  unfold aNextMap at h
  split at h
  · rename_i l
    have hl0 : l < s.next := by cases hp; assumption
    have ho := hW.obj l hl0
    have over : VR ι s w (.tuple [.bool false]) (.tuple #[.bool false]) := VRs.tup (ys := [.bool false]) (.cons (.bool _) (.nil _ _ _))
    split at h
    · rename_i since seen last hg
      rw [hg] at ho
      obtain ⟨m', g1, g2, g3, g4⟩ := ho
      obtain ⟨hl, rfl⟩ := it_addr hW hp (by rw [hg]; rfl) g4
      cases g3
      refine .v0 hW h ?_ over
      simp [Instr.next, getObj, Sem.run, g1]
    · rename_i m since seen last hg
      rw [hg] at ho
      obtain ⟨m', g1, g2, g3, g4⟩ := ho
      obtain ⟨hl, rfl⟩ := it_addr hW hp (by rw [hg]; rfl) g4
      split at h
      · rename_i es st hgm
        split at h
        · cases h
        rename_i hno
        cases g3 with
        | map hlm hem ham =>
          obtain ⟨hr, ents, clock, h1, h2, h3, h4, hst⟩ := map_of hW hlm ham hgm
          subst hr
          have hg1 : (getObj (ι l).b).run P w = .ok (.mapIter (some (ι m).b) since seen.toArray last) w := by simp [getObj, Sem.run, g1]
          have hg2 : (getObj (ι m).b).run P w = .ok (.map ents clock) w := MapKept.run_getObj_map h1
          have hno2 : (!seen.toArray.isEmpty && !ents.isEmpty && ents.all fun e => decide (e.born ≥ last)) = false := by
            rw [Bool.eq_false_iff]
            intro q
            simp only [Bool.and_eq_true, Bool.not_eq_true'] at q
            refine hno ⟨fun z => ?_, fun z => ?_, ?_⟩
            · rw [z] at q; simp at q
            · rw [z] at h3
              have : ents.size = 0 := h3.symm
              have : ents = #[] := Array.eq_empty_of_size_eq_zero this
              rw [this] at q; simp at q
            · rw [hst]
              simp only [List.all_map]
              have := q.2
              rw [← Array.all_toList] at this
              simpa [Function.comp_def] using this
          obtain ⟨es', z1, z2, z3⟩ := zip_filter (ι := ι) (s := s) (w := w) (es := es) (ents := ents.toList) (fun b => !seen.contains b) (by simpa using h3)
          have z3 := z3 (by simpa using h4)
          have hcon : ∀ e : MapEntry, seen.toArray.contains e.born = seen.contains e.born := fun e => by simp
          have hfl : (ents.filter fun e => !seen.toArray.contains e.born).toList = ents.toList.filter fun e => !seen.contains e.born := by simp
          rw [hst] at h
          simp only [z1] at h
          generalize hL : (ents.toList.filter fun e => !seen.contains e.born) = L at h z2 z3 hfl
          have hLA : (ents.filter fun e => !seen.toArray.contains e.born) = L.toArray := by rw [← hfl]
          split at h
          · rename_i hz
            have hL0 : L = [] := by
              cases L with
              | nil => rfl
              | cons e L =>
                cases es' with
                | nil => simp at z2
                | cons x es' => simp at hz
            subst hL0
            refine .v0 hW h ?_ over
            simp only [Instr.next, Sem.run_bind, hg1, hg2, Result.andThen_ok, hno2, hLA]
            simp [choose, Sem.run, Question.forced]
          · rename_i k v b hz
            obtain ⟨e, hL1, hx⟩ : ∃ e, L = [e] ∧ es' = [(k, v)] ∧ e.born = b := by
              cases L with
              | nil => simp at hz
              | cons e L =>
                cases es' with
                | nil => simp at hz
                | cons x es' =>
                  simp only [List.map_cons, List.zip_cons_cons, List.cons.injEq, Prod.mk.injEq] at hz
                  obtain ⟨⟨q1, q2⟩, q3⟩ := hz
                  cases L with
                  | nil =>
                    cases es' with
                    | nil => exact ⟨e, rfl, by rw [q1], q2⟩
                    | cons y es' => simp at z2
                  | cons e2 L =>
                    cases es' with
                    | nil => simp at z2
                    | cons y es' => simp at q3
            subst hL1
            obtain ⟨hx1, hx2⟩ := hx
            obtain ⟨e', q1, q2, q3⟩ := z3 0 k v (by rw [hx1]; rfl)
            simp only [List.getElem?_cons_zero, Option.some.injEq] at q1
            subst q1
            split at h
            · rename_i hlt
              subst hx2
              obtain ⟨h5, h6⟩ := obj_set hW (o' := .miter (.map m) since (seen ++ [e.born]) clock) (O' := .mapIter (some (ι m).b) since (seen ++ [e.born]).toArray clock) hl (by rw [hg]; rfl) (by rw [hg]; rfl) rfl g1 g2 (by simp) (by simp) (fun k => ⟨some (ι m).b, (MapKept.heap_set g1).1, g2, (VR.map hlm hem ham).later k, g4⟩)
              refine .v h (v' := .tuple #[.bool true, e.key, e.val]) ?_ (VRs.tup (ys := [.bool true, e.key, e.val]) (.cons (.bool _) (.cons (q2.later h6) (.cons (q3.later h6) (.nil _ _ _))))) h5 h6
              simp only [Instr.next, Sem.run_bind, hg1, hg2, Result.andThen_ok, hno2, hLA]
              have hnl : ¬ since ≤ e.born := by omega
              simp [choose, Sem.run, Question.forced, hlt, hnl, setObj, g1]
            · cases h
          · cases h
      · cases h
    · cases h
  · cases h
theorem entry_sound {p : AV} {p' : Value} {f : AV → Option α} (h : aEntry p s f = some r) (hp : VR ι s w p p') (hW : WR B w0 ι s w) : ∃ v v', f v = some r ∧ (Instr.entry p').run P w = .ok v' w ∧ VR ι s w v v' := by
  unfold aEntry at h
  split at h
  · rename_i l
    have hl0 : l < s.next := by cases hp; assumption
    have ho := hW.obj l hl0
    split at h
    · rename_i m since seen last hg
      rw [hg] at ho
      obtain ⟨m', g1, g2, g3, g4⟩ := ho
      obtain ⟨hl, rfl⟩ := it_addr hW hp (by rw [hg]; rfl) g4
      split at h
      · rename_i es st b hgm hlast
        split at h
        rotate_left
        · cases h
        rename_i hst2
        split at h
        · rename_i k v b' hfind
          cases g3 with
          | map hlm hem ham =>
            obtain ⟨hr, ents, clock, h1, h2, h3, h4, hst⟩ := map_of hW hlm ham hgm
            subst hr
            rw [hst] at hfind hst2
            obtain ⟨e, e1, e2, e3⟩ : ∃ e, ents.find? (fun e => e.born == b) = some e ∧ VR ι s w k e.key ∧ VR ι s w v e.val := by
              rw [← Array.find?_toList]
              have hlen : es.length = ents.toList.length := by simpa using h3
              have h4' : ∀ (i : Nat) k v, es[i]? = some (k, v) → ∃ e, ents.toList[i]? = some e ∧ VR ι s w k e.key ∧ VR ι s w v e.val := by simpa using h4
              clear hgm hst h1 h3 h4 h hg hlast
              simp only at hfind
              generalize ents.toList = L at hfind hlen h4'
              induction L generalizing es with
              | nil => simp at hfind
              | cons e L ih =>
                cases es with
                | nil => simp at hlen
                | cons x es =>
                  obtain ⟨xk, xv⟩ := x
                  simp only [List.map_cons, List.zip_cons_cons, List.find?_cons] at hfind ⊢
                  by_cases hb : (e.born == b) = true
                  · rw [hb] at hfind ⊢
                    simp only [Option.some.injEq, Prod.mk.injEq] at hfind
                    obtain ⟨⟨rfl, rfl⟩, _⟩ := hfind
                    obtain ⟨e', q1, q2, q3⟩ := h4' 0 _ _ rfl
                    simp only [List.getElem?_cons_zero, Option.some.injEq] at q1
                    subst q1
                    exact ⟨e, rfl, q2, q3⟩
                  · simp only [hb] at hfind ⊢
                    refine ih es hfind (by simpa using hlen) fun i k v hi => ?_
                    obtain ⟨e', q1, q2⟩ := h4' (i + 1) k v (by simpa using hi)
                    exact ⟨e', by simpa only [List.getElem?_cons_succ] using q1, q2⟩
            refine ⟨_, .tuple #[e.key, e.val], h, ?_, VRs.tup (ys := [e.key, e.val]) (.cons e2 (.cons e3 (.nil _ _ _)))⟩
            have hbk : seen.toArray.back? = some b := by rw [List.back?_toArray]; exact hlast
            have hst3 : clock = last := hst2
            subst hst3
            simp only [Instr.entry, Sem.run_bind, getObj, Sem.run, g1, hbk, MapKept.run_getObj_map h1, h1, Result.andThen_ok, e1]
            simp [Sem.run_pure]
        · cases h
      · cases h
    · cases h
  · cases h
theorem meth_ahead (hM : MethFine P) {n : String} {t : Nat} (h : methT n t = true) (v' : Value) : (nilAhead (P.types.size + Made.depth) t v' n).run P w = .ok (some false) w := by
  unfold methT at h
  obtain ⟨p, hp, hq⟩ := List.any_eq_true.1 h
  simp only [Bool.and_eq_true, beq_iff_eq, Nat.beq_eq] at hq
  have hk := List.all_eq_true.1 hM p hp
  rw [hq.1, hq.2] at hk
  unfold methOkB at hk
  split at hk
  · rename_i m d hm hd
    obtain ⟨i, hi, hf⟩ := Option.bind_eq_some_iff.1 hm
    have hti : (typeInfo t).run P w = .ok i w := by simp [typeInfo, program, Sem.run, hi]
    simp only [Bool.and_eq_true] at hk
    have hpl : m.path.toList = [] := by simpa using hk.1
    have hk2 := hk.2
    show (nilAhead (P.types.size + 99 + 1) t v' n).run P w = _
    unfold nilAhead
    simp only [Sem.run_bind, hti, Result.andThen_ok, hf, hpl, followBlind, Sem.run_pure]
    split at hk2
    · rename_i f d' hfn
      simp [hfn]
    · cases hk2
    · rename_i d2 q2 q3 f hfn hd2
      simp only [hfn, Sem.run_bind, run_underlying hd, Result.andThen_ok]
      cases d2 <;> first | (exact (hd2 _ rfl).elim) | simp
    · cases hk2
  · cases hk
theorem invoke_sound {x : AV} {x' : Value} {name : String} {args : List AV} {args' : Array Value} (hB : Bodied P call) (h : aInvoke P call x name args s κ = some r) (hx : VR ι s w x x') (ha : VRs ι s w args args'.toList) : Done P call B w0 ι s w (callMethod x' name args') κ r := by
  unfold aInvoke at h
  split at h
  · rename_i t v
    cases hx with
    | iface hv =>
      rename_i v'
      split at h
      · rename_i m d hm hd
        obtain ⟨i, hi, hf⟩ := Option.bind_eq_some_iff.1 hm
        have hti : (typeInfo t).run P w = .ok i w := by simp [typeInfo, program, Sem.run, hi]
        have hmeth : ∀ (f : FuncId) (b : Bool), m.func = some (f, b) → m.path.isEmpty = true → (receiverAt t (.val v') b (if m.path.isEmpty then some ((name.splitOn ".").getLastD name) else none)).run P w = .ok v' w → (method (P.types.size + Made.depth) t v' name).run P w = .ok (f, v') w := by
          intro f b hfb hpe hrc
          show (method (P.types.size + 99 + 1) t v' name).run P w = _
          have hpl : m.path.toList = [] := by simpa using hpe
          unfold method
          simp only [Sem.run_bind, hti, Result.andThen_ok, hf, hpl, follow, Sem.run_pure, hfb, hrc]
        have fin : ∀ f : FuncId, (method (P.types.size + Made.depth) t v' name).run P w = .ok (f, v') w → (call f (v :: args) s).bind (fun r => κ r.1 r.2) = some r → Done P call B w0 ι s w (callMethod (.iface t v') name args') κ r := by
          intro f hmf hc0
          cases hc : call f (v :: args) s with
          | none => rw [hc] at hc0; cases hc0
          | some q =>
            rw [hc] at hc0
            obtain ⟨fn, k1, k2, k3⟩ := hB.2 _ _ _ _ hc
            refine .inr ⟨f, v :: args, #[v'] ++ args', q.1, q.2, ?_, ?_, hc, hc0⟩
            · have k2' : ¬ fn.name = "runtime.NumGoroutine" := by simpa using k2
              have k3' : ¬ fn.body = none := by intro e; rw [e] at k3; cases k3
              simp only [callMethod, Sem.run_bind, program, Sem.run, hmf, Result.andThen_ok]
              simp [callFunc, k1, k2', k3', program, Sem.run]
            · simpa using VRs.cons hv ha
        split at h
        · rename_i f el hfn
          split at h
          · rename_i hpe
            refine fin f (hmeth f true hfn hpe ?_) h
            simp [receiverAt, run_underlying hd, Place.get]
          · cases h
        · cases h
        · rename_i d2 q2 q3 f hfn hd2
          split at h
          · rename_i hpe
            refine fin f (hmeth f false hfn hpe ?_) h
            unfold receiverAt
            simp only [Sem.run_bind, run_underlying hd, Result.andThen_ok]
            cases d2 <;> first | (exact (hd2 _ rfl).elim) | (simp [Place.get])
          · cases h
        · cases h
      · cases h
  · cases h
theorem assert_sound {x : AV} {x' : Value} {xt t : TypeId} {ok : Bool} {f : AV → Option α} (h : aAssert P t ok x f = some r) (hx : VR ι s w x x') : ∃ v v', f v = some r ∧ (Instr.typeAssert x' xt t ok).run P w = .ok v' w ∧ VR ι s w v v' := by
  unfold aAssert at h
  split at h
  · cases h
  · rename_i d z hni hd hz
    obtain ⟨z', hz1, hz2⟩ := zero_sound (ι := ι) (s := s) hz w
    have two : ∀ (v : AV) (v' : Value) (b : Bool), VR ι s w v v' → VR ι s w (.tuple [v, .bool b]) (.tuple #[v', .bool b]) := fun v v' b hv => VRs.tup (ys := [v', .bool b]) (.cons hv (.cons (.bool b) (.nil _ _ _)))
    have hdi : ∀ ms, d ≠ .interface ms := fun ms q => hni ms q
    split at h
    · rename_i t' v
      cases hx with
      | iface hv =>
        rename_i v'
        split at h
        · rename_i ht
          subst ht
          refine ⟨_, (if ok then .tuple #[v', .bool true] else v'), h, ?_, ?_⟩
          · cases d <;> first | (exact absurd rfl (hdi _)) | simp [Instr.typeAssert, run_underlying hd]
          · cases ok
            · exact hv
            · exact two _ _ _ hv
        · rename_i ht
          cases ok
          · cases h
          · refine ⟨_, .tuple #[z', .bool false], h, ?_, two _ _ _ hz2⟩
            cases d <;> first | (exact absurd rfl (hdi _)) | simp [Instr.typeAssert, run_underlying hd, ht, hz1]
    · cases hx
      cases ok
      · cases h
      · refine ⟨_, .tuple #[z', .bool false], h, ?_, two _ _ _ hz2⟩
        cases d <;> first | (exact absurd rfl (hdi _)) | simp [Instr.typeAssert, run_underlying hd, hz1]
    · cases h
  · cases h
end
end Go.Proofs.Ytkfdgegmahbkiaa.Sim
namespace Go.Proofs.Ytkfdgegmahbkiaa.Sim
open Go.RowKit (Below)
set_option linter.unusedSimpArgs false
section
variable {P : Program} {call : CallA} {B : Nat} {w0 : World} {ι : Nat → Loc} {s : Store} {w : World} {α : Type} {r : α} {κ : AV → Store → Option α}

theorem elem_of {t e : TypeId} (he : Sim.elemOf P t = some e) : P.underlying t = some (.slice e) := by
  unfold Sim.elemOf at he
  split at he
  · rename_i hq; rw [hq, Option.some.inj he]
  · cases he

theorem builtin_sound {b : Builtin} {ts : Array TypeId} {ty : TypeId} {cs : Array Bool} {xs : List AV} {xs' : Array Value} (h : aBuiltin P b ts.toList xs s κ = some r) (hx : VRs ι s w xs xs'.toList) (hW : WR B w0 ι s w) :
    Done P call B w0 ι s w (builtin b ts ty cs xs') κ r := by
  unfold aBuiltin at h
  split at h
  · rename_i t tr x xr hts
    obtain ⟨x', hx0, hv⟩ := hx.get (i := 0) rfl
    have hts0 : ts[0]? = some t := by rw [← Array.getElem?_toList, hts]; rfl
    have hx0' : xs'[0]? = some x' := by rw [← Array.getElem?_toList]; exact hx0
    split at h
    · rename_i hu
      obtain ⟨v, v', k1, k2, k3⟩ := lenStr_sound (P := P) (ty := ty) hts0 hx0' hu h hv
      exact .v0 hW k1 k2 k3
    · rename_i e hu
      obtain ⟨v, v', k1, k2, k3⟩ := len_sound (P := P) (ty := ty) hts0 hx0' hu h hv
      exact .v0 hW k1 k2 k3
    · rename_i n e hu
      exact .v0 hW h (by simp [Builtin.len_, hts0, hx0', run_underlying hu, goInt]) (.int _ _)
    · rename_i kt e hu
      obtain ⟨v, v', k1, k2, k3⟩ := lenMap_sound (P := P) (ty := ty) hts0 hx0' hu h hv hW
      exact .v0 hW k1 k2 k3
    · cases h
  · rename_i t u x y hts
    have hts' : ts = #[t, u] := by apply Array.ext'; rw [hts]
    have hl : xs'.toList.length = 2 := by rw [← hx.1]; rfl
    obtain ⟨x', y', hxs⟩ : ∃ x' y', xs' = #[x', y'] := by
      match hq : xs'.toList, hl with
      | [p, q], _ => exact ⟨p, q, by apply Array.ext'; rw [hq]⟩
    subst hxs; subst hts'
    have h1 := hx.2 0 x x' rfl rfl
    have h2 := hx.2 1 y y' rfl rfl
    have hgo : ∀ {e : TypeId} {zs : List AV} {i : TypeInfo}, Sim.elemOf P t = some e → zerosOf P e = some zs → P.info? e = some i → zs.length = i.size → aAppend i.size i.bytes x y s κ = some r → ((∃ e', P.underlying u = some (.slice e')) ∨ P.underlying u = some .string) →
        Done P call B w0 ι s w (builtin .append #[t, u] ty cs #[x', y']) κ r := by
      intro e zs i he hz hi hl ha hu
      have ht : P.underlying t = some (.slice e) := by
        unfold Sim.elemOf at he
        split at he
        · rename_i hq; rw [hq, Option.some.inj he]
        · cases he
      obtain ⟨i', z, hi', hzz, rfl, hone⟩ := zeros_of hz
      obtain rfl : i = i' := Option.some.inj (hi.symm.trans hi')
      obtain ⟨v, s', v', w', ι', k1, k2, k3, k4, k5⟩ := append_sound (P := P) (ty := ty) ht hu ⟨hi, hzz, by simpa using hl, hone⟩ ha h1 h2 hW
      exact .v k1 k2 k3 k4 k5
    split at h
    · rename_i e e' he hu
      split at h
      · rename_i zs i hz hi
        split at h
        · rename_i hl; exact hgo he hz hi hl h (.inl ⟨_, hu⟩)
        · cases h
      · cases h
    · rename_i e he hu
      split at h
      · rename_i zs i hz hi
        split at h
        · rename_i hl; exact hgo he hz hi hl h (.inr hu)
        · cases h
      · cases h
    · rename_i e ku he hu
      split at h
      · rename_i zs i hz hi
        split at h
        · rename_i hl
          have ht : P.underlying t = some (.slice e) := by
            unfold Sim.elemOf at he
            split at he
            · rename_i hq; rw [hq, Option.some.inj he]
            · cases he
          obtain ⟨i', z, hi', hzz, rfl, hone⟩ := zeros_of hz
          obtain rfl : i = i' := Option.some.inj (hi.symm.trans hi')
          obtain ⟨v, s', v', w', ι', k1, k2, k3, k4, k5⟩ := appendMake_sound (P := P) (ty := ty) ht hu ⟨hi, hzz, by simpa using hl, hone⟩ h h1 h2 hW
          exact .v k1 k2 k3 k4 k5
        · cases h
      · cases h
    · cases h
  · rename_i t u x y hts
    have hts' : ts = #[t, u] := by apply Array.ext'; rw [hts]
    have hl : xs'.toList.length = 2 := by rw [← hx.1]; rfl
    obtain ⟨x', y', hxs⟩ : ∃ x' y', xs' = #[x', y'] := by
      match hq : xs'.toList, hl with
      | [p, q], _ => exact ⟨p, q, by apply Array.ext'; rw [hq]⟩
    subst hxs; subst hts'
    have h1 := hx.2 0 x x' rfl rfl
    have h2 := hx.2 1 y y' rfl rfl
    split at h
    · rename_i e he
      split at h
      · rename_i n hn
        have ht : P.underlying t = some (.slice e) := by
          unfold Sim.elemOf at he
          split at he
          · rename_i hq; rw [hq, Option.some.inj he]
          · cases he
        obtain ⟨v, s', v', w', ι', k1, k2, k3, k4, k5⟩ := copy_sound (P := P) (u := u) (ty := ty) ht hn h h1 h2 hW
        exact .v k1 k2 k3 k4 k5
      · cases h
    · cases h
  · rename_i t tr x hts
    have hts0 : ts[0]? = some t := by rw [← Array.getElem?_toList, hts]; rfl
    obtain ⟨x', hx0, hv⟩ := hx.get (i := 0) rfl
    have hx0' : xs'[0]? = some x' := by rw [← Array.getElem?_toList]; exact hx0
    split at h
    · rename_i e he
      split at h
      · rename_i zs i hz hi
        split at h
        · rename_i hl
          obtain ⟨s', w', ι', k1, k2, k3, k4⟩ := clear_sound (P := P) (ty := ty) hts0 hx0' (elem_of he) hz hi hl h hv hW
          exact .v k1 k2 (VRs.tup (ys := []) (.nil _ _ _)) k3 k4
        · cases h
      · cases h
    · cases h
  · rename_i x xr
    obtain ⟨y, ys, hy⟩ : ∃ y ys, xs'.toList = y :: ys := by
      match hq : xs'.toList with
      | [] => have := hx.1; rw [hq] at this; simp at this
      | y :: ys => exact ⟨y, ys, rfl⟩
    rw [hy] at hx
    obtain ⟨v, v', k1, k2, k3⟩ := maxL_sound (P := P) h (hx.2 0 _ _ rfl rfl) (by simpa using hx.drop 1)
    refine .v0 hW k1 ?_ k3
    simp only [Builtin.max_, hy]; exact k2
  · rename_i x xr
    obtain ⟨y, ys, hy⟩ : ∃ y ys, xs'.toList = y :: ys := by
      match hq : xs'.toList with
      | [] => have := hx.1; rw [hq] at this; simp at this
      | y :: ys => exact ⟨y, ys, rfl⟩
    rw [hy] at hx
    obtain ⟨v, v', k1, k2, k3⟩ := minL_sound (P := P) h (hx.2 0 _ _ rfl rfl) (by simpa using hx.drop 1)
    refine .v0 hW k1 ?_ k3
    simp only [Builtin.min_, hy]; exact k2
  · rename_i t tr m k hts
    have hts0 : ts[0]? = some t := by rw [← Array.getElem?_toList, hts]; rfl
    obtain ⟨m', hm0, hm⟩ := hx.get (i := 0) rfl
    obtain ⟨k', hk0, hk⟩ := hx.get (i := 1) rfl
    split at h
    · rename_i kt e hu
      split at h
      · rename_i kd hkd
        obtain ⟨s', w', ι', k1, k2, k3, k4⟩ := delete_sound (P := P) (ty := ty) hts0 (by rw [← Array.getElem?_toList]; exact hm0) (by rw [← Array.getElem?_toList]; exact hk0) hu hkd h hm hk hW
        exact .v k1 k2 (VRs.tup (ys := []) (.nil _ _ _)) k3 k4
      · cases h
    · cases h
  · rename_i t tr x xr hts
    obtain ⟨x', hx0, hv⟩ := hx.get (i := 0) rfl
    have hts0 : ts[0]? = some t := by rw [← Array.getElem?_toList, hts]; rfl
    have hx0' : xs'[0]? = some x' := by rw [← Array.getElem?_toList]; exact hx0
    split at h
    · rename_i e hu
      obtain ⟨v, v', k1, k2, k3⟩ := cap_sound (P := P) (ty := ty) hts0 hx0' hu h hv
      exact .v0 hW k1 k2 k3
    · cases h
  · cases h

theorem map_lo {ρ : Operand → AV} {ρ' : Operand → Value} (hρ : ∀ x, VR ι s w (ρ x) (ρ' x)) (o : Option Operand) : (∀ x, o.map ρ = some x → ∃ x', o.map ρ' = some x' ∧ VR ι s w x x') ∧ (o.map ρ = none → o.map ρ' = none) := by
  cases o with
  | none => exact ⟨fun x hx => (by cases hx), fun _ => rfl⟩
  | some q => exact ⟨fun x hx => by obtain rfl := Option.some.inj hx; exact ⟨_, rfl, hρ q⟩, fun hx => by cases hx⟩
theorem map_args {ρ : Operand → AV} {ρ' : Operand → Value} (hρ : ∀ x, VR ι s w (ρ x) (ρ' x)) (a : Array Operand) : VRs ι s w (a.toList.map ρ) (a.map ρ').toList :=
  ⟨by simp, fun i x y hx hy => by
    rw [List.getElem?_map] at hx
    rw [Array.toList_map, List.getElem?_map] at hy
    cases h : a.toList[i]? with
    | none => rw [h] at hx; cases hx
    | some q =>
      rw [h] at hx hy
      simp only [Option.map_some, Option.some.injEq] at hx hy
      subst hx; subst hy; exact hρ q⟩

theorem aop_sound {o : Oper} {ρ : Operand → AV} {ρ' : Operand → Value} (hB : Bodied P call) (hρ : ∀ x, VR ι s w (ρ x) (ρ' x)) (h : aop P call ρ o s κ = some r) (hW : WR B w0 ι s w) : Done P call B w0 ι s w (execOp ρ' o) κ r := by
  unfold aop at h
  unfold execOp
  split at h <;> rename_i ho <;> simp only [ho]
  · exact .inl ⟨_, _, _, _, _, ι, h, rfl, .inl rfl, hρ _, hW, Later.refl _ _ _⟩
  · exact .inl ⟨_, _, _, _, _, ι, h, rfl, .inl rfl, hρ _, hW, Later.refl _ _ _⟩
  · rename_i c a b
    unfold aPick at h
    split at h
    · rename_i t hc
      have := hρ c
      rw [hc] at this
      generalize hq : ρ' c = q at this
      cases this
      refine .inl ⟨_, _, _, if t then ρ' a else ρ' b, _, ι, h, by rw [Sem.run_bind]; rfl, .inl rfl, ?_, hW, Later.refl _ _ _⟩
      cases t
      · exact hρ b
      · exact hρ a
    · cases h
  · split at h
    · rename_i zs hz; exact alloc_sound hz h hW
    · cases h
  · exact box_sound h (hρ _) hW
  · split at h
    · rename_i zs pl hz hpl
      split at h
      · rename_i ps hps
        obtain ⟨cs, c, k1, k2, k3, k4⟩ := builds_sound hz hpl hps h hρ
        exact .v0 hW k1 k2 (by simpa using k3.agg k4)
      · cases h
    · cases h
  · split at h
    · rename_i e he
      split at h
      · rename_i zs c hz hc
        split at h
        · rename_i hn
          exact buildSlice_sound (elem_of he) hz hc hn h hρ hW
        · cases h
      · cases h
    · cases h
  · obtain ⟨v, v', k1, k2, k3⟩ := load_sound (P := P) h (hρ _) hW
    exact .v0 hW k1 k2 k3
  · split at h
    · rename_i n hn
      obtain ⟨s', w', ι', k1, k2, k3, k4⟩ := store_sound (P := P) hn h (hρ _) (hρ _) hW
      exact .u k1 k2 k3 k4
    · cases h
  · rename_i x
    have hx := hρ x
    unfold aNilCheck at h
    generalize ρ' x = x' at hx
    split at h <;> first
      | (cases h; done)
      | (rename_i n t v hq
         split at h
         · rename_i hmt
           rw [hq] at hx
           have hx0 := hx
           cases hx with
           | meth hv =>
             cases hv with
             | iface hv2 =>
               refine .inl ⟨_, _, _, _, _, ι, h, ?_, .inl rfl, hx0, hW, Later.refl _ _ _⟩
               simp [meth_ahead hB.1 hmt, program, Sem.run]
         · cases h)
      | (rename_i hq; rw [hq] at hx; cases hx; exact .inl ⟨_, _, _, _, _, ι, h, rfl, .inl rfl, (by constructor <;> assumption), hW, Later.refl _ _ _⟩)
      | (rename_i hq; rw [hq] at hx; cases hx; exact .inl ⟨_, _, _, _, _, ι, h, rfl, .inl rfl, .nilsl, hW, Later.refl _ _ _⟩)
  · rename_i op t x y ty
    split at h
    · obtain ⟨v, v', k1, k2, k3⟩ := shift_sound (P := P) (t := t) (ox := x) (oy := y) h (hρ x) (hρ y); exact .v0 hW k1 k2 k3
    · obtain ⟨v, v', k1, k2, k3⟩ := shift_sound (P := P) (t := t) (ox := x) (oy := y) h (hρ x) (hρ y); exact .v0 hW k1 k2 k3
    · rename_i n1 n2
      split at h
      · obtain ⟨v, v', k1, k2, k3⟩ := bin_sound (P := P) (t := t) (ox := x) (oy := y) h ⟨n1, n2⟩ (hρ x) (hρ y); exact .v0 hW k1 k2 k3
      · obtain ⟨v, v', k1, k2, k3⟩ := bin_sound (P := P) (t := t) (ox := x) (oy := y) h ⟨n1, n2⟩ (hρ x) (hρ y); exact .v0 hW k1 k2 k3
      · rename_i e he
        split at h
        · obtain ⟨b, k1, k2, k3⟩ := eq_sound (P := P) (op := .eql) (ox := x) (oy := y) he h (hρ x) (hρ y); exact .v0 hW k1 k2 (.bool _)
        · obtain ⟨b, k1, k2, k3⟩ := eq_sound (P := P) (op := .neq) (ox := x) (oy := y) he h (hρ x) (hρ y); exact .v0 hW k1 k3 (.bool _)
        · cases h
      · cases h
  · obtain ⟨v, v', k1, k2, k3⟩ := un_sound (P := P) h (hρ _); exact .v0 hW k1 k2 k3
  · split at h
    · rename_i hs hd; obtain ⟨v, v', k1, k2, k3⟩ := conv_int_sound (P := P) hs hd h (hρ _); exact .v0 hW k1 k2 k3
    · rename_i hs hd; obtain ⟨b, k1, k2⟩ := conv_str_sound (P := P) hs hd h (hρ _); exact .v0 hW k1 k2 (.str _)
    · rename_i e hs hd
      split at h
      · rename_i he; exact bytesOf_sound hs hd he h (hρ _) hW
      · rename_i he; exact runesOf_sound hs hd he h (hρ _) hW
      · cases h
    · rename_i e hs hd
      split at h
      · rename_i he; obtain ⟨v, v', k1, k2, k3⟩ := strOf_sound (P := P) hs he hd h (hρ _) hW; exact .v0 hW k1 k2 k3
      · cases h
    · rename_i e1 e hs hd
      split at h
      · rename_i he
        split at h
        · rename_i hsd; subst hsd; exact convSl_sound hd he h (hρ _) hW
        · cases h
      · cases h
    · cases h
  · split at h
    · cases h
    · rename_i d hu hn
      refine .v0 hW h (v' := .iface _ (ρ' _)) ?_ (.iface (hρ _))
      cases d <;> first | (exact (hu _ rfl).elim) | (simp [Instr.makeInterface, run_underlying hn]; done)
    · cases h
  · rename_i f first cap
    refine .v0 hW h rfl ?_
    have e1 := map_args hρ first
    have e2 := map_args hρ cap
    exact .func (by simp) (fun i x y hx hy => e1.2 i x y hx (by rw [Array.getElem?_toList]; exact hy)) (by simp) (fun i x y hx hy => e2.2 i x y hx (by rw [Array.getElem?_toList]; exact hy))
  · rename_i n first cap
    split at h
    · rename_i x hx
      have e1 := map_args hρ first
      rw [hx] at e1
      obtain ⟨y, hy⟩ : ∃ y, first.map ρ' = #[y] := by
        have hl := e1.1
        match hq : (first.map ρ').toList, hl with
        | [p], _ => exact ⟨p, by apply Array.ext'; rw [hq]⟩
      refine .v0 hW h rfl ?_
      rw [hy] at e1 ⊢
      exact .meth (e1.2 0 _ _ rfl rfl)
    · cases h
  · exact makeMap_sound h hW
  · split at h
    · rename_i e he
      split at h
      · rename_i zs i hz hi
        split at h
        · rename_i hl
          exact makeSlice_sound (elem_of he) hz hi hl h (hρ _) (hρ _) hW
        · cases h
      · cases h
    · cases h
  · rename_i t x lo hi
    obtain ⟨l1, l2⟩ := map_lo hρ lo
    obtain ⟨g1, g2⟩ := map_lo hρ hi
    split at h
    · rename_i hu; obtain ⟨v, v', k1, k2, k3⟩ := cutStr_sound (P := P) hu h (hρ _) l1 l2 g1 g2; exact .v0 hW k1 k2 k3
    · rename_i e hu
      split at h
      · rename_i c hc; obtain ⟨v, v', k1, k2, k3⟩ := cutSl_sound (P := P) hu hc h (hρ _) l1 l2 g1 g2; exact .v0 hW k1 k2 k3
      · cases h
    · rename_i n e hu
      split at h
      · rename_i c hc; obtain ⟨v, v', k1, k2, k3⟩ := cutArr_sound (P := P) hu hc h (hρ _) hW l1 l2 g1 g2; exact .v0 hW k1 k2 k3
      · cases h
    · cases h
  · rename_i t x lo hi mx
    obtain ⟨l1, l2⟩ := map_lo hρ lo
    obtain ⟨g1, g2⟩ := map_lo hρ hi
    split at h
    · rename_i e hu
      split at h
      · rename_i c hc; obtain ⟨v, v', k1, k2, k3⟩ := cutCap_sound (P := P) hu hc h (hρ _) (hρ _) l1 l2 g1 g2; exact .v0 hW k1 k2 k3
      · cases h
    · cases h
  · split at h
    · rename_i fs hu
      split at h
      · rename_i f hf
        split at h
        · rename_i n hn
          split at h
          · rename_i h0; obtain ⟨v, v', k1, k2, k3⟩ := fieldAddr_sound (P := P) hu hf hn h0 h (hρ _); exact .v0 hW k1 k2 k3
          · cases h
        · cases h
      · cases h
    · cases h
  · split at h
    · rename_i fs hu
      split at h
      · rename_i f hf
        obtain ⟨v, v', k1, k2, k3⟩ := field_sound (P := P) hu hf h (hρ _); exact .v0 hW k1 k2 k3
      · cases h
    · cases h
  · split at h
    · rename_i e hu
      split at h
      · rename_i c hc; obtain ⟨v, v', k1, k2, k3⟩ := indexSl_sound (P := P) hu hc h (hρ _) (hρ _); exact .v0 hW k1 k2 k3
      · cases h
    · rename_i n e hu
      split at h
      · rename_i c hc; obtain ⟨v, v', k1, k2, k3⟩ := indexArr_sound (P := P) hu hc h (hρ _) (hρ _); exact .v0 hW k1 k2 k3
      · cases h
    · cases h
  · split at h
    · rename_i hu; obtain ⟨v, v', k1, k2, k3⟩ := indexStr_sound (P := P) hu h (hρ _) (hρ _); exact .v0 hW k1 k2 k3
    · rename_i n e hu
      split at h
      · rename_i b c hb hc; obtain ⟨v, v', k1, k2, k3⟩ := indexAgg_sound (P := P) hu hb hc h (hρ _) (hρ _); exact .v0 hW k1 k2 k3
      · cases h
    · cases h
  · split at h
    · rename_i kt e hu
      split at h
      · rename_i z hz
        split at h
        · rename_i kd hkd; obtain ⟨v, v', k1, k2, k3⟩ := lookup_sound (P := P) hu hkd hz h (hρ _) (hρ _) hW; exact .v0 hW k1 k2 k3
        · cases h
      · cases h
    · cases h
  · split at h
    · rename_i kt e hu
      split at h
      · rename_i kd hkd; obtain ⟨s', w', ι', k1, k2, k3, k4⟩ := mapUpdate_sound (P := P) hu hkd h (hρ _) (hρ _) (hρ _) hW; exact .u k1 k2 k3 k4
      · cases h
    · cases h
  · obtain ⟨v, v', k1, k2, k3⟩ := extract_sound (P := P) h (hρ _); exact .v0 hW k1 k2 k3
  · rename_i c
    have ha := map_args hρ c.args
    split at h
    · rename_i f hf
      simp only [resolve, hf]
      exact call_sound hB h (hρ f) ha
    · rename_i b hb
      simp only [resolve, hb]
      have := builtin_sound (call := call) (ty := o.type) (cs := c.args.map fun | .const _ => true | _ => false) h ha hW
      exact this
    · rename_i x name hx
      simp only [resolve, hx]
      have := invoke_sound (w0 := w0) (B := B) hB h (hρ x) ha
      have e0 : ((#[ρ' x] ++ c.args.map ρ' : Array Value))[0]? = some (ρ' x) := by rw [Array.getElem?_append_left (by simp)]; rfl
      have e1 : (#[ρ' x] ++ c.args.map ρ').extract 1 (#[ρ' x] ++ c.args.map ρ').size = c.args.map ρ' := by simp
      have e2 : invoke (.fn (.method name) #[]) (#[ρ' x] ++ c.args.map ρ') = callMethod (ρ' x) name (c.args.map ρ') := by
        unfold invoke
        simp only [e0, e1]
      rw [← e2] at this
      exact this
  · split at h
    · rename_i kt e hu
      split at h
      · rename_i z hz
        split at h
        · rename_i kd hkd; exact mapEntry_sound hu hz hkd h (hρ _) (hρ _) hW
        · cases h
      · cases h
    · cases h
  · obtain ⟨s', w', ι', k1, k2, k3, k4⟩ := entryStore_sound (P := P) h (hρ _) (hρ _) (hρ _) hW; exact .u k1 k2 k3 k4
  · split at h
    · rename_i hu; exact rangeStr_sound hu h (hρ _) hW
    · rename_i hu; exact rangeMap_sound hu h (hρ _) hW
    · cases h
  · split at h
    · rename_i hs; subst hs; exact nextStr_sound h (hρ _) hW
    · rename_i hs
      simp only [Bool.not_eq_true] at hs
      subst hs
      exact nextMap_sound h (hρ _) hW
  · obtain ⟨v, v', k1, k2, k3⟩ := entry_sound (P := P) h (hρ _) hW; exact .v0 hW k1 k2 k3
  · obtain ⟨v, v', k1, k2, k3⟩ := assert_sound (P := P) h (hρ _); exact .v0 hW k1 k2 k3
  · cases h
end
end Go.Proofs.Ytkfdgegmahbkiaa.Sim
