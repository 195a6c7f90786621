/- The texts SimJ, SimK, SimL, one behind the other. No condition. -/
import Derived.Test.YtmaidlndikcgkaaSimI
import Derived.MapKept
import Derived.Laws.Tables
namespace Go.Proofs.Ytmaidlndikcgkaa.Sim
open Go.RowKit (Below)
set_option linter.unusedSimpArgs false
section
variable {P : Program} {call : CallA} {B : Nat} {w0 : World} {ι : Nat → Loc} {s : Store} {w : World} {α : Type} {r : α} {κ : AV → Store → Option α}

theorem num_sound {x : AV} {x' : Value} {f : Int → Option α} (h : aNum x f = some r) (hx : VR ι s w x x') : ∃ k n, x' = .int k n ∧ f n = some r := by
  unfold aNum at h
  split at h
  · cases hx; exact ⟨_, _, rfl, h⟩
  · cases h

/-- A bound: what it is here, what it is there. -/
theorem bound_sound {d : Int} {o : Option AV} {o' : Option Value} {f : Int → Option α} (h : (match o with | some l => aNum l | Option.none => fun k => k d) f = some r) (ho : ∀ x, o = some x → ∃ x', o' = some x' ∧ VR ι s w x x') (hn : o = none → o' = none) :
    ∃ n, f n = some r ∧ ((o' = none ∧ n = d) ∨ ∃ k, o' = some (.int k n)) := by
  cases o with
  | none => exact ⟨d, h, .inl ⟨hn rfl, rfl⟩⟩
  | some x =>
    obtain ⟨x', e, hx⟩ := ho x rfl
    obtain ⟨k, n, rfl, hf⟩ := num_sound h hx
    exact ⟨n, hf, .inr ⟨k, e⟩⟩

theorem run_bounds {isSlice : Bool} {len cap : Nat} {lo hi : Option Value} {a b : Int} (hlo : (lo = none ∧ a = 0) ∨ ∃ k, lo = some (.int k a)) (hhi : (hi = none ∧ b = len) ∨ ∃ k, hi = some (.int k b)) (h0 : 0 ≤ a) (hab : a ≤ b) (hbc : b ≤ cap) (w : World) :
    (Instr.sliceBounds isSlice len cap lo hi none).run P w = .ok (a.toNat, b.toNat, cap) w := by
  have h3 : 0 ≤ b := by omega
  have e3 : a ≤ max b 0 := by omega
  rcases hlo with ⟨rfl, rfl⟩ | ⟨k, rfl⟩ <;> rcases hhi with ⟨rfl, rfl⟩ | ⟨k', rfl⟩ <;> simp [Instr.sliceBounds, Instr.sliceBound, asIntOf, h0, hab, hbc, h3, e3]

theorem cutSl_sound {t e : TypeId} {c : Nat} {x : AV} {x' : Value} {lo hi : Option AV} {lo' hi' : Option Value} {f : AV → Option α} (hu : P.underlying t = some (.slice e)) (hc : szOf P e = some c) (h : aSliceSl c x lo hi f = some r) (hx : VR ι s w x x')
    (hl1 : ∀ x, lo = some x → ∃ x', lo' = some x' ∧ VR ι s w x x') (hl2 : lo = none → lo' = none) (hh1 : ∀ x, hi = some x → ∃ x', hi' = some x' ∧ VR ι s w x x') (hh2 : hi = none → hi' = none) :
    ∃ v v', f v = some r ∧ (Instr.sliceAt t x' lo' hi' none).run P w = .ok v' w ∧ VR ι s w v v' := by
  unfold aSliceSl at h
  split at h
  · obtain ⟨a, h1, ha⟩ := bound_sound h hl1 hl2
    obtain ⟨b, h2, hb⟩ := bound_sound h1 hh1 hh2
    split at h2
    · rename_i hab
      obtain ⟨rfl, rfl⟩ := hab
      cases hx
      refine ⟨_, .slice none 0 0, h2, ?_, .nilsl⟩
      have := run_bounds (P := P) (isSlice := true) (len := 0) (cap := 0) ha hb (Int.le_refl _) (Int.le_refl _) (Int.le_refl _) w
      simp [Instr.sliceAt, Instr.slice, run_underlying hu, this, run_size hc]
    · cases h2
  · rename_i l off n es' ep
    obtain ⟨a, h, ha⟩ := bound_sound h hl1 hl2
    obtain ⟨b, h, hb⟩ := bound_sound h hh1 hh2
    have hab : es' = c ∧ 0 ≤ a ∧ a ≤ b ∧ (b ≤ n ∨ (0 < c ∧ off + b.toNat * c ≤ ep)) ∧ f (.sl l (off + a.toNat * c) (b.toNat - a.toNat) c ep) = some r := by
      split at h
      · rename_i q; exact ⟨q.1, q.2.1, q.2.2.1, .inl q.2.2.2, h⟩
      · split at h
        · rename_i q; exact ⟨q.1, q.2.1, q.2.2.1, .inr q.2.2.2, h⟩
        · cases h
    clear h
    · obtain ⟨rfl, h0, h1, h2, h⟩ := hab
      cases hx with
      | sl hl hle hadr hcap hr =>
        rename_i ad cap
        have hbc : b.toNat ≤ cap := by
          rcases h2 with h2 | ⟨h2, h3⟩
          · omega
          · have h4 : b.toNat * es' ≤ cap * es' := by omega
            exact Nat.le_of_mul_le_mul_right h4 h2
        have hrun := run_bounds (P := P) (isSlice := true) (len := n) (cap := cap) ha hb h0 h1 (by omega) w
        refine ⟨_, .slice (some (if cap = a.toNat then ad else ad.add (a.toNat * es'))) (b.toNat - a.toNat) (cap - a.toNat), h, ?_, .sl hl hle (fun e => ?_) (by omega) (by
          have h1 := hr
          have hmul : cap * es' = a.toNat * es' + (cap - a.toNat) * es' := by rw [← Nat.add_mul]; congr 1; omega
          omega)⟩
        · simp [Instr.sliceAt, Instr.slice, run_underlying hu, hrun, run_size hc]
          split <;> rfl
        · obtain ⟨k1, k2⟩ := hadr e
          refine ⟨by omega, fun hpos => ?_⟩
          obtain ⟨k3, k4, k5⟩ := k2 (by omega)
          rw [if_neg (by omega)]
          have hmul : cap * es' = a.toNat * es' + (cap - a.toNat) * es' := by rw [← Nat.add_mul]; congr 1; omega
          have hadd : ad.add (a.toNat * es') = ⟨(ι l).b, (ι l).o + (off - (ι l).sh) + a.toNat * es', none⟩ := by rw [k3, add_mk]
          have e1 : ad.block = (ι l).b := by rw [k3]
          have e2 : ad.off = (ι l).o + (off - (ι l).sh) := by rw [k3]
          rw [hadd]
          rw [e1] at k4 k5
          rw [e2] at k5
          refine ⟨by congr 1; omega, k4, ?_⟩
          show (ι l).o + (off - (ι l).sh) + a.toNat * es' + (cap - a.toNat) * es' ≤ bsz w (ι l).b
          omega
  · cases h

theorem cutStr_sound {t : TypeId} {x : AV} {x' : Value} {lo hi : Option AV} {lo' hi' : Option Value} {f : AV → Option α} (hu : P.underlying t = some .string) (h : aSliceStr x lo hi f = some r) (hx : VR ι s w x x')
    (hl1 : ∀ x, lo = some x → ∃ x', lo' = some x' ∧ VR ι s w x x') (hl2 : lo = none → lo' = none) (hh1 : ∀ x, hi = some x → ∃ x', hi' = some x' ∧ VR ι s w x x') (hh2 : hi = none → hi' = none) :
    ∃ v v', f v = some r ∧ (Instr.sliceAt t x' lo' hi' none).run P w = .ok v' w ∧ VR ι s w v v' := by
  unfold aSliceStr at h
  split at h
  · rename_i z
    obtain ⟨a, h, ha⟩ := bound_sound h hl1 hl2
    obtain ⟨b, h, hb⟩ := bound_sound h hh1 hh2
    split at h
    · rename_i hab
      obtain ⟨h0, h1, h2⟩ := hab
      cases hx
      have hrun := run_bounds (P := P) (isSlice := false) (len := z.size) (cap := z.size) ha hb h0 h1 h2 w
      exact ⟨_, _, h, by simp [Instr.sliceAt, Instr.slice, run_underlying hu, hrun], .str _⟩
    · cases h
  · cases h

theorem cutArr_sound {t e : TypeId} {len c : Nat} {x : AV} {x' : Value} {lo hi : Option AV} {lo' hi' : Option Value} {f : AV → Option α} (hu : P.underlying t = some (.array len e)) (hc : szOf P e = some c) (h : aSliceArr len c x lo hi f = some r) (hx : VR ι s w x x') (hW : WR B w0 ι s w)
    (hl1 : ∀ x, lo = some x → ∃ x', lo' = some x' ∧ VR ι s w x x') (hl2 : lo = none → lo' = none) (hh1 : ∀ x, hi = some x → ∃ x', hi' = some x' ∧ VR ι s w x x') (hh2 : hi = none → hi' = none) :
    ∃ v v', f v = some r ∧ (Instr.sliceAt t x' lo' hi' none).run P w = .ok v' w ∧ VR ι s w v v' := by
  unfold aSliceArr at h
  split at h
  · rename_i l off ep
    obtain ⟨a, h, ha⟩ := bound_sound h hl1 hl2
    obtain ⟨b, h, hb⟩ := bound_sound h hh1 hh2
    split at h
    · rename_i hab
      obtain ⟨h0, h1, h2, h4, h5⟩ := hab
      cases hx with
      | ptr hl hle hadr =>
        rename_i ad
        have hrun := run_bounds (P := P) (isSlice := false) (len := len) (cap := len) ha hb h0 h1 h2 w
        refine ⟨_, .slice (some (if len = a.toNat then ad else ad.add (a.toNat * c))) (b.toNat - a.toNat) (len - a.toNat), h, ?_, .sl hl hle (fun e => ?_) (by omega) (by
          have hmul : len * c = a.toNat * c + (len - a.toNat) * c := by rw [← Nat.add_mul]; congr 1; omega
          omega)⟩
        · simp [Instr.sliceAt, Instr.sureAddr, run_underlying hu, hrun, run_size hc]
        · obtain ⟨k1, k2⟩ := hadr e
          refine ⟨by omega, fun hpos => ?_⟩
          rw [if_neg (by omega)]
          have hmul : len * c = a.toNat * c + (len - a.toNat) * c := by rw [← Nat.add_mul]; congr 1; omega
          have hadd : ad.add (a.toNat * c) = ⟨(ι l).b, (ι l).o + (off - (ι l).sh) + a.toNat * c, none⟩ := by rw [k2, add_mk]
          rw [hadd]
          have hcells : ∃ xs ro, s.get l = .cells xs ro := by
            cases hg : s.get l with
            | none => rw [hg] at e; simp [AObj.size] at e
            | cells xs ro => exact ⟨xs, ro, rfl⟩
            | map es => rw [hg] at e; simp [AObj.size] at e; omega
          obtain ⟨xs, ro, hg⟩ := hcells
          obtain ⟨cc, ty, fz, g1, g2, g3, _⟩ := cells_of hW hl hg (.inl (by rw [hg] at e; simp only [AObj.size] at e; omega))
          have hbs : bsz w (ι l).b = cc.size := by unfold bsz; rw [g1]
          rw [hg] at e
          simp only [AObj.size] at e
          refine ⟨by congr 1; omega, heap_lt g1, ?_⟩
          show (ι l).o + (off - (ι l).sh) + a.toNat * c + (len - a.toNat) * c ≤ bsz w (ι l).b
          rw [hbs]
          omega
    · cases h
  · cases h

theorem madeCells_take {zs : List Value} {n m : Nat} (hn : n ≤ m) (hz : 0 < zs.length) : (madeCells zs.toArray (m * zs.length)).toList.take (n * zs.length) = (List.replicate n zs).flatten := by
  apply List.ext_getElem?
  intro i
  have hlen : (List.replicate n zs).flatten.length = n * zs.length := by simp
  have hmn : n * zs.length ≤ m * zs.length := Nat.mul_le_mul_right _ hn
  by_cases hi : i < n * zs.length
  · rw [List.getElem?_take, if_pos hi]
    have h1 : (madeCells zs.toArray (m * zs.length)).toList[i]? = some (zs[i % zs.length]'(Nat.mod_lt _ hz)) := by
      have : i % zs.length < zs.length := Nat.mod_lt _ hz
      simp [madeCells, show i < m * zs.length by omega, this]
    rw [h1]
    have h2 : (List.replicate n zs).flatten[i]? = zs[i % zs.length]? := by
      clear h1 hlen hmn hn
      induction n generalizing i with
      | zero => simp at hi
      | succ n ih =>
        rw [List.replicate_succ, List.flatten_cons]
        by_cases h : i < zs.length
        · rw [List.getElem?_append_left h, Nat.mod_eq_of_lt h]
        · rw [List.getElem?_append_right (by omega), ih (i - zs.length) (by rw [Nat.succ_mul] at hi; omega), Nat.mod_eq_sub_mod (show i ≥ zs.length by omega)]
    rw [h2, List.getElem?_eq_getElem (Nat.mod_lt _ hz)]
  · rw [List.getElem?_take, if_neg hi, List.getElem?_eq_none (by omega)]

theorem makeSlice_sound {t e : TypeId} {i : TypeInfo} {zs : List AV} {n c : AV} {n' c' : Value} (hu : P.underlying t = some (.slice e)) (hz : zerosOf P e = some zs) (hi : P.info? e = some i) (hl : zs.length = i.size)
    (h : aMakeSlice zs i.size i.bytes n c s κ = some r) (hn : VR ι s w n n') (hc : VR ι s w c c') (hW : WR B w0 ι s w) :
    Done P call B w0 ι s w (Instr.makeSlice t n' c' >>= fun a => pure (.value a)) κ r := by
  unfold aMakeSlice at h
  split at h
  · rename_i a b
    cases hn; cases hc
    split at h
    · rename_i hab
      obtain ⟨h0, h1, h2, h3⟩ := hab
      obtain ⟨i', z, hi', hzz, rfl, hone⟩ := zeros_of hz
      obtain rfl : i = i' := Option.some.inj (hi.symm.trans hi')
      have hzl : z.cells.toList.length = i.size := by simpa using hl
      have hrun := run_make (P := P) w t e i z hu hi hzz .i64 .i64 a b h0 h1 (by rw [Int.mul_comm]; omega) h2
      have hzr : VRs ι s w (List.replicate a.toNat (z.cells.toList.map ofVal)).flatten (List.replicate a.toNat z.cells.toList).flatten := (vrs_ofVal ι s w z.cells.toList).replicate _
      have hlen : (List.replicate a.toNat (z.cells.toList.map ofVal)).flatten.length = a.toNat * i.size := by simp at hzl; simp [hzl]
      have htk : (madeCells z.cells (b.toNat * i.size)).toList.take (a.toNat * i.size) = (List.replicate a.toNat z.cells.toList).flatten := by
        by_cases hp : 0 < z.cells.toList.length
        · have := madeCells_take (zs := z.cells.toList) (n := a.toNat) (m := b.toNat) (by omega) hp
          rw [hzl] at this
          simpa using this
        · have hq : z.cells.toList = [] := List.length_eq_zero_iff.1 (by omega)
          have : i.size = 0 := by rw [← hzl, hq]; rfl
          rw [hq, this]; simp
      obtain ⟨ι', h5, h6, h7⟩ := push_cells hW (cs := (List.replicate a.toNat (z.cells.toList.map ofVal)).flatten) (c := madeCells z.cells (b.toNat * i.size)) e (0, 0) false
        (w' := w.alloc (.cells (madeCells z.cells (b.toNat * i.size)) e)) rfl rfl rfl rfl (by rw [hlen, htk]; exact hzr) (by
          rw [hlen, htk]
          intro y hy
          obtain ⟨l, hl1, hl2⟩ := List.mem_flatten.1 hy
          rw [(List.mem_replicate.1 hl1).2] at hl2
          exact hone y hl2) (fun _ => rfl)
      exact .v h hrun (new_sl h7 (c := madeCells z.cells (b.toNat * i.size)) rfl hlen.symm (by omega) (by rw [size_madeCells]; exact Nat.le_refl _) (by rw [hlen]; exact Nat.mul_le_mul_right _ (by omega))) h5 h6
    · cases h
  · cases h

theorem cutCap_sound {t e : TypeId} {c : Nat} {x m : AV} {x' m' : Value} {lo hi : Option AV} {lo' hi' : Option Value} {f : AV → Option α} (hu : P.underlying t = some (.slice e)) (hc : szOf P e = some c) (h : aCutCap x lo hi m f = some r) (hx : VR ι s w x x') (hm : VR ι s w m m')
    (hl1 : ∀ x, lo = some x → ∃ x', lo' = some x' ∧ VR ι s w x x') (hl2 : lo = none → lo' = none) (hh1 : ∀ x, hi = some x → ∃ x', hi' = some x' ∧ VR ι s w x x') (hh2 : hi = none → hi' = none) :
    ∃ v v', f v = some r ∧ (Instr.sliceAt t x' lo' hi' (some m')).run P w = .ok v' w ∧ VR ι s w v v' := by
  unfold aCutCap at h
  split at h
  · rename_i l off n es ep
    obtain ⟨a, h, ha⟩ := bound_sound h hl1 hl2
    obtain ⟨b, h, hb⟩ := bound_sound h hh1 hh2
    obtain ⟨k, q, rfl, h⟩ := num_sound h hm
    split at h
    · rename_i hab
      obtain ⟨h0, h1, h2, h3, h4⟩ := hab
      cases hx with
      | sl hl hle hadr hcap hr =>
        rename_i ad cap
        obtain ⟨kb, rfl⟩ : ∃ kb, hi' = some (.int kb b) := by
          rcases hb with ⟨e1, _⟩ | h
          · cases hi with
            | none => simp at h4
            | some y => obtain ⟨y', e2, _⟩ := hh1 y rfl; rw [e1] at e2; cases e2
          · exact h
        have hrun : (Instr.sliceBounds true n cap lo' (some (.int kb b)) (some (.int k q))).run P w = .ok (a.toNat, b.toNat, q.toNat) w := by
          have g1 : 0 ≤ b := by omega
          have g2 : 0 ≤ q := by omega
          have g3 : q ≤ cap := by omega
          have g4 : b ≤ max q 0 := by omega
          have g5 : a ≤ max b 0 := by omega
          rcases ha with ⟨rfl, rfl⟩ | ⟨k2, rfl⟩ <;> simp [Instr.sliceBounds, Instr.sliceBound, asIntOf, h0, g1, g2, g3, g4, g5, h1, h2]
        exact ⟨_, .slice (if q.toNat = a.toNat then some ad else some (ad.add (a.toNat * c))) (b.toNat - a.toNat) (q.toNat - a.toNat), h, by simp [Instr.sliceAt, Instr.slice, run_underlying hu, hrun, run_size hc], .junk _⟩
    · cases h
  · cases h

theorem clear_sound {t e : TypeId} {i : TypeInfo} {zs : List AV} {x : AV} {x' : Value} {ts : Array TypeId} {xs : Array Value} {ty : TypeId} {f : Store → Option α} (hts : ts[0]? = some t) (hx0 : xs[0]? = some x') (hu : P.underlying t = some (.slice e)) (hz : zerosOf P e = some zs) (hi : P.info? e = some i) (hl : zs.length = i.size)
    (h : aClear zs i.size x s f = some r) (hx : VR ι s w x x') (hW : WR B w0 ι s w) : ∃ s' w' ι', f s' = some r ∧ (Builtin.clear_ ts ty xs).run P w = .ok (.tuple #[]) w' ∧ WR B w0 ι' s' w' ∧ Later ι s w ι' s' w' := by
  obtain ⟨i', z, hi', hzz, rfl, hone⟩ := zeros_of hz
  obtain rfl : i = i' := Option.some.inj (hi.symm.trans hi')
  have hzl : z.cells.toList.length = i.size := by simpa using hl
  unfold aClear at h
  split at h
  · cases hx
    exact ⟨_, w, ι, h, by simp [Builtin.clear_, hts, hx0, run_underlying hu], hW, Later.refl _ _ _⟩
  · rename_i l off n es' ep
    cases hx with
    | sl hll hle ha hc hr =>
      rename_i a c
      split at h
      · rename_i hn
        subst hn
        exact ⟨_, w, ι, h, by simp [Builtin.clear_, hts, hx0, run_underlying hu], hW, Later.refl _ _ _⟩
      · rename_i hn
        split at h
        · rename_i hes
          subst hes
          obtain ⟨xs1, hg, hep, h⟩ := own_of h
          split at h
          · rename_i hin
            obtain ⟨hsh, hadr0⟩ := ha (by rw [hg]; show _ + 1 = _ + 1; omega)
            obtain ⟨hadr, _, _⟩ := hadr0 (by omega)
            have hzr : VRs ι s w (List.replicate n (z.cells.toList.map ofVal)).flatten (List.replicate n z.cells.toList).flatten := (vrs_ofVal ι s w z.cells.toList).replicate _
            have hlen : (List.replicate n (z.cells.toList.map ofVal)).flatten.length = n * i.size := by simp at hzl; simp [hzl]
            obtain ⟨w', hst, hW', hL'⟩ := set_cells (P := P) hW hll hg off hsh (by rw [hlen]; exact hin) hzr (fun y hy => by
              obtain ⟨l, hl1, hl2⟩ := List.mem_flatten.1 hy
              rw [(List.mem_replicate.1 hl1).2] at hl2
              exact hone y hl2)
            refine ⟨_, w', ι, h, ?_, hW', hL'⟩
            rw [← hadr, ← zeroCells_list] at hst
            obtain ⟨n, rfl⟩ : ∃ k, n = k + 1 := ⟨n - 1, by omega⟩
            simp [Builtin.clear_, hts, hx0, run_underlying hu, run_zero hi hzz, hst]
          · cases h
        · cases h
  · cases h

theorem convSl_sound {t e : TypeId} {x : AV} {x' : Value} (hu : P.underlying t = some (.slice e)) (he : P.underlying e = some (.int .u8)) (h : aConvSl x s κ = some r) (hx : VR ι s w x x') (hW : WR B w0 ι s w) :
    Done P call B w0 ι s w (convert t t x' >>= fun a => pure (.value a)) κ r := by
  unfold aConvSl at h
  split at h
  · rename_i l off n es ep
    split at h
    · rename_i hn
      obtain ⟨xs, hg, hep, h⟩ := own_of h
      cases hx with
      | sl hl hle ha hc hr =>
        rename_i a c
        obtain ⟨hsh, hadr0⟩ := ha (by rw [hg]; show _ + 1 = _ + 1; omega)
        obtain ⟨hadr, _, _⟩ := hadr0 (by omega)
        obtain ⟨cc, ty, fz, g1, g2, g3, g4, g5, g6⟩ := cells_of hW hl hg (.inr rfl)
        obtain ⟨rfl, hB⟩ := g6 rfl
        have hsh2 : w.shape? (ι l).b = some (ty, cc.size) := by unfold World.shape?; rw [g1]
        have hb : (ι l).b < w.heap.size := heap_lt g1
        have hfh : ∀ b, (w.freeze ⟨(ι l).b, cc.size, none⟩ 1).heap[b]? = if b = (ι l).b then some (.cells cc ty (cc.size, cc.size + 1)) else w.heap[b]? := fun b => by
          unfold World.freeze
          rw [if_neg (by decide)]
          simp only [Array.getElem?_modify]
          by_cases e : (ι l).b = b
          · subst e; rw [if_pos rfl, if_pos rfl, g1]; rfl
          · rw [if_neg e, if_neg (fun q => e q.symm)]
        have hsz : (w.freeze ⟨(ι l).b, cc.size, none⟩ 1).heap.size = w.heap.size := by unfold World.freeze; rw [if_neg (by decide)]; simp
        have hrest : (w.freeze ⟨(ι l).b, cc.size, none⟩ 1).os = w.os ∧ (w.freeze ⟨(ι l).b, cc.size, none⟩ 1).tape = w.tape ∧ (w.freeze ⟨(ι l).b, cc.size, none⟩ 1).output = w.output := by unfold World.freeze; rw [if_neg (by decide)]; exact ⟨rfl, rfl, rfl⟩
        have hrun : (convert t t (.slice (some a) n c)).run P w = .ok (.slice (some a) n c) (w.freeze ⟨(ι l).b, cc.size, none⟩ 1) := by
          have : a.block = (ι l).b := by rw [hadr]
          simp [convert, run_underlying hu, run_underlying he, markStringish, this, hsh2]
        have := hW.update hl (by rw [hg]; rfl) hB (.cells xs true) (ι l) (w' := w.freeze ⟨(ι l).b, cc.size, none⟩ 1) (by rw [hg]; exact Nat.le_refl _) (fun _ => rfl) hrest.1 hrest.2.1 hrest.2.2 (by rw [hsz]; exact Nat.le_refl _) (fun b _ hne => by rw [hfh b, if_neg hne])
          (by unfold bsz; rw [hfh, if_pos rfl, g1]) (.inl rfl) (fun k => .inr ⟨cc, ty, (cc.size, cc.size + 1), by rw [hfh, if_pos rfl], g2, g3, g4.later k, g5, fun q => by cases q⟩)
        rw [upd_self] at this
        exact .v h hrun ((VR.sl hl hle ha hc hr).later this.2) this.1 this.2
    · cases h
  · cases h

theorem makeMap_sound {t : TypeId} (h : κ (.map s.next) (s.push (.map [])) = some r) (hW : WR B w0 ι s w) : Done P call B w0 ι s w (Instr.makeMap t none >>= fun a => pure (.value a)) κ r := by
  obtain ⟨h5, h6⟩ := hW.push (.map []) ⟨w.heap.size, 0, 0⟩ (w' := { w with heap := w.heap.push (.map #[] 0) }) rfl rfl rfl (by simp) (fun b hb => by simp only [Array.getElem?_push, if_neg (show ¬ b = w.heap.size by omega)]) (Nat.le_refl _)
    (fun _ => ⟨#[], 0, by simp, hW.hB, rfl, fun i k v hi => by simp at hi⟩)
  exact .v h (v' := .map (some w.heap.size)) (by simp [Instr.makeMap]) (.map (by simp [Store.push]) (by simp [Store.push, AObj.size]) (fun _ => by simp)) h5 h6

/-! ### maps -/
def kindFits : TypeDesc → EK → Bool
  | .bool, .bool => true
  | .int _, .int => true
  | .string, .str => true
  | _, _ => false

theorem keyKind_of {kt : TypeId} {kd : EK} (h : keyKind P kt = some kd) : ∃ d, P.underlying kt = some d ∧ kindFits d kd = true := by
  unfold keyKind at h
  split at h <;> first | (rename_i hu; obtain rfl := Option.some.inj h; exact ⟨_, hu, rfl⟩) | cases h

theorem check_sound {kt : TypeId} {d : TypeDesc} {kd : EK} {key : AV} {key' : Value} (hu : P.underlying kt = some d) (hd : kindFits d kd = true) (hf : keyFits kd key = true) (hk : VR ι s w key key') (e : Bool) : (Instr.checkKey e 10000 kt key').run P w = .ok () w := by
  show (Instr.checkKey e (9999 + 1) kt key').run P w = _
  generalize 9999 = m
  unfold Instr.checkKey
  simp only [Sem.run_bind, run_underlying hu, Result.andThen_ok]
  cases hk <;> cases kd <;> simp [keyFits] at hf <;> cases d <;> simp [kindFits] at hd <;> rfl

theorem keyEq_sound {d : TypeDesc} {kd : EK} {key k : AV} {key' k' : Value} {b : Bool} (hd : kindFits d kd = true) (hf : keyFits kd key = true) (h : keyEq key k = some b) (hk : VR ι s w key key') (hk2 : VR ι s w k k') : Instr.sameNow d key' k' = some b ∧ (b = true → Instr.sameBits 10000 k' key' = true) := by
  unfold keyEq at h
  split at h
  · split at h
    · rename_i he
      subst he
      cases hk; cases hk2
      obtain rfl := Option.some.inj h
      cases kd <;> simp [keyFits] at hf
      cases d <;> simp [kindFits] at hd
      refine ⟨by simp [Instr.sameNow], fun e => ?_⟩
      simp at e
      subst e
      unfold Instr.sameBits; simp
    · cases h
  · rename_i p q
    cases hk; cases hk2
    obtain rfl := Option.some.inj h
    cases kd <;> simp [keyFits] at hf
    cases d <;> simp [kindFits] at hd
    refine ⟨by simp [Instr.sameNow], fun e => ?_⟩
    have e1 : (p.data == q.data) = true := e
    have e2 : p.data = q.data := by simpa using e1
    unfold Instr.sameBits
    show (q.data == p.data) = true
    rw [e2]; simp
  · rename_i p q
    cases hk; cases hk2
    obtain rfl := Option.some.inj h
    cases kd <;> simp [keyFits] at hf
    cases d <;> simp [kindFits] at hd
    refine ⟨by simp [Instr.sameNow], fun e => ?_⟩
    unfold Instr.sameBits
    cases p <;> cases q <;> first | rfl | cases e
  · cases h

theorem findAt_sound {d : TypeDesc} {kd : EK} {key : AV} {key' : Value} (hd : kindFits d kd = true) (hf : keyFits kd key = true) (hk : VR ι s w key key') : ∀ {es : List (AV × AV)} {ents : List MapEntry} {i : Nat} {res : Option (Nat × AV)}, findAt key es i = some res → es.length = ents.length →
    (∀ (j : Nat) k v, es[j]? = some (k, v) → ∃ e, ents[j]? = some e ∧ VR ι s w k e.key ∧ VR ι s w v e.val) →
    (res = none ∧ Instr.findNow d key' ents i = some none) ∨ (∃ j v e, res = some (i + j, v) ∧ j < es.length ∧ ents[j]? = some e ∧ VR ι s w v e.val ∧ Instr.findNow d key' ents i = some (some (i + j, e.val)) ∧ Instr.sameBits 10000 e.key key' = true)
  | [], ents, i, res, h, hl, _ => by
    obtain rfl := Option.some.inj h
    have : ents = [] := List.length_eq_zero_iff.1 hl.symm
    subst this
    exact .inl ⟨rfl, rfl⟩
  | (k, v) :: es, [], i, res, h, hl, _ => by simp at hl
  | (k, v) :: es, e :: ents, i, res, h, hl, hp => by
    obtain ⟨e', he, h1, h2⟩ := hp 0 k v rfl
    simp only [List.getElem?_cons_zero, Option.some.injEq] at he
    subst he
    simp only [findAt] at h
    split at h
    · rename_i hb
      obtain rfl := Option.some.inj h
      obtain ⟨k1, k2⟩ := keyEq_sound hd hf hb hk h1
      exact .inr ⟨0, v, e, rfl, by simp, rfl, h2, by simp [Instr.findNow, k1], k2 rfl⟩
    · rename_i hb
      obtain ⟨k1, _⟩ := keyEq_sound hd hf hb hk h1
      rcases findAt_sound hd hf hk (es := es) (ents := ents) h (by simpa using hl) (fun j k v hj => by
        obtain ⟨e2, g1, g2⟩ := hp (j + 1) k v (by simpa using hj)
        exact ⟨e2, by simpa using g1, g2⟩) with ⟨h3, h4⟩ | ⟨j, v2, e2, h3, h4, h5, h6, h7, h8⟩
      · exact .inl ⟨h3, by simp [Instr.findNow, k1, h4]⟩
      · refine .inr ⟨j + 1, v2, e2, ?_, by simp; omega, by simpa using h5, h6, ?_, h8⟩
        · rw [h3]; congr 2; omega
        · simp only [Instr.findNow, k1]
          rw [h7]; congr 2; congr 1; omega
    · cases h

theorem map_of (hW : WR B w0 ι s w) {l rr : Nat} {es : List (AV × AV)} (hl : l < s.next) (ha : (s.get l).size = 1 → rr = (ι l).b) (hg : s.get l = .map es) :
    rr = (ι l).b ∧ ∃ (ents : Array MapEntry) (clock : Nat), w.heap[rr]? = some (.map ents clock) ∧ B ≤ rr ∧ es.length = ents.size ∧ ∀ (i : Nat) k v, es[i]? = some (k, v) → ∃ e, ents[i]? = some e ∧ VR ι s w k e.key ∧ VR ι s w v e.val := by
  have e := ha (by rw [hg]; rfl)
  have := hW.obj l hl
  rw [hg] at this
  obtain ⟨ents, clock, h1, h2, h3, h4⟩ := this
  exact ⟨e, ents, clock, by rw [e]; exact h1, by rw [e]; exact h2, h3, h4⟩

theorem zero_sound {t : TypeId} {z : AV} (h : zeroOf P t = some z) (w : World) : ∃ z', (zeroValue t).run P w = .ok z' w ∧ VR ι s w z z' := by
  unfold zeroOf at h
  cases hi : P.info? t with
  | none => rw [hi] at h; simp at h
  | some i =>
    rw [hi] at h
    simp only [Option.bind_some] at h
    cases hz : i.zero with
    | none => rw [hz] at h; simp at h
    | some zz =>
      rw [hz] at h
      refine ⟨zz, run_zero hi hz w, ?_⟩
      split at h
      · rename_i cs hcs
        injection hcs with hcs
        subst hcs
        split at h
        · rename_i hone
          obtain rfl := Option.some.inj h
          have := (vrs_ofVal ι s w cs.toList).agg (fun y hy => by
            have := List.all_eq_true.1 hone y hy
            cases y <;> simp_all [Value.oneCell'])
          simpa using this
        · cases h
      · rename_i v hcs hv
        injection hv with hv
        subst hv
        obtain rfl := Option.some.inj h
        exact ofVal_sound _ _ _ _
      · cases h

theorem lookup_sound {t kt e : TypeId} {kd : EK} {z m key : AV} {m' key' : Value} {ok : Bool} {f : AV → Option α} (hu : P.underlying t = some (.map kt e)) (hkd : keyKind P kt = some kd) (hz : zeroOf P e = some z) (h : aLookup kd z ok m key s f = some r)
    (hm : VR ι s w m m') (hk : VR ι s w key key') (hW : WR B w0 ι s w) : ∃ v v', f v = some r ∧ (Instr.lookup t m' key' ok).run P w = .ok v' w ∧ VR ι s w v v' := by
  obtain ⟨d, hd, hdk⟩ := keyKind_of hkd
  obtain ⟨z', hz1, hz2⟩ := zero_sound (ι := ι) (s := s) hz w
  have two : ∀ (v : AV) (v' : Value) (b : Bool), VR ι s w v v' → VR ι s w (bif ok then .tuple [v, .bool b] else v) (if ok then .tuple #[v', .bool b] else v') := fun v v' b hv => by
    cases ok
    · exact hv
    · exact VRs.tup (ys := [v', .bool b]) (.cons hv (.cons (.bool b) (.nil _ _ _)))
  unfold aLookup aFind at h
  split at h
  · rename_i hf
    have hck := fun b => check_sound (P := P) hd hdk hf hk b
    split at h
    · cases hm
      refine ⟨_, _, h, ?_, two _ _ _ hz2⟩
      simp [Instr.lookup, run_underlying hu, hck, MapKept.run_findKey hd (k := key') (l := []) (a := none) rfl, hz1]
    · rename_i l
      split at h
      · rename_i es hg
        split at h
        · rename_i res hres
          cases hm with
          | map hl he ha =>
            obtain ⟨hr, ents, clock, h1, h2, h3, h4⟩ := map_of hW hl ha hg
            rcases findAt_sound hdk hf hk (ents := ents.toList) hres (by simpa using h3) (by simpa using h4) with ⟨rfl, h5⟩ | ⟨j, v, en, rfl, h5, h6, h7, h8, h9⟩
            · refine ⟨_, _, h, ?_, two _ _ _ hz2⟩
              simp [Instr.lookup, run_underlying hu, hck, MapKept.run_getObj_map h1, MapKept.run_findKey hd h5, hz1]
            · refine ⟨_, _, h, ?_, two _ _ _ h7⟩
              simp [Instr.lookup, run_underlying hu, hck, MapKept.run_getObj_map h1, MapKept.run_findKey hd h8]
        · cases h
      · cases h
    · cases h
  · cases h

theorem map_set (hW : WR B w0 ι s w) {l : Nat} {es es' : List (AV × AV)} (hl : l < s.next) (hg : s.get l = .map es) {ents : Array MapEntry} {clock : Nat} {ents' : Array MapEntry} {clock' : Nat} (hb : w.heap[(ι l).b]? = some (.map ents clock)) (hB : B ≤ (ι l).b)
    (hlen : es'.length = ents'.size) (hes : ∀ (i : Nat) k v, es'[i]? = some (k, v) → ∃ e, ents'[i]? = some e ∧ VR ι s w k e.key ∧ VR ι s w v e.val) :
    WR B w0 ι (s.set l (.map es')) { w with heap := w.heap.setIfInBounds (ι l).b (.map ents' clock') } ∧ Later ι s w ι (s.set l (.map es')) { w with heap := w.heap.setIfInBounds (ι l).b (.map ents' clock') } := by
  have hs1 := (MapKept.heap_set (o' := .map ents' clock') hb).1
  have hs2 := (MapKept.heap_set (o' := .map ents' clock') hb).2
  have := hW.update hl (by rw [hg]; rfl) hB (.map es') (ι l) (by rw [hg]; exact Nat.le_refl _) (fun _ => rfl) (w' := { w with heap := w.heap.setIfInBounds (ι l).b (.map ents' clock') }) rfl rfl rfl (by simp)
    (fun b _ hne => hs2 b hne) (by unfold bsz; simp only [hs1, hb]) (.inl rfl) (fun k => ⟨ents', clock', hs1, hB, hlen, fun i kk v hi => by
      obtain ⟨e, g1, g2, g3⟩ := hes i kk v hi
      exact ⟨e, g1, g2.later k, g3.later k⟩⟩)
  rw [upd_self] at this
  exact this

theorem mapUpdate_sound {t kt e : TypeId} {kd : EK} {m key x : AV} {m' key' x' : Value} {f : Store → Option α} (hu : P.underlying t = some (.map kt e)) (hkd : keyKind P kt = some kd) (h : aMapUpdate kd m key x s f = some r)
    (hm : VR ι s w m m') (hk : VR ι s w key key') (hx : VR ι s w x x') (hW : WR B w0 ι s w) : ∃ s' w' ι', f s' = some r ∧ (Instr.mapUpdate t m' key' x').run P w = .ok () w' ∧ WR B w0 ι' s' w' ∧ Later ι s w ι' s' w' := by
  obtain ⟨d, hd, hdk⟩ := keyKind_of hkd
  unfold aMapUpdate at h
  split at h
  · rename_i hf
    have hck := fun b => check_sound (P := P) hd hdk hf hk b
    split at h
    · rename_i l
      split at h
      · rename_i es hg
        cases hm with
        | map hl he ha =>
          obtain ⟨hr, ents, clock, h1, h2, h3, h4⟩ := map_of hW hl ha hg
          subst hr
          split at h
          · rename_i i v hres
            rcases findAt_sound hdk hf hk (ents := ents.toList) hres (by simpa using h3) (by simpa using h4) with ⟨h5, _⟩ | ⟨j, v, en, h0, h5, h6, h7, h8, h9⟩
            · cases h5
            · obtain ⟨e1, e2⟩ := Prod.mk.inj (Option.some.inj h0)
              subst e2
              have e1' : i = j := by omega
              subst e1'
              have h6' : ents[i]? = some en := by simpa using h6
              obtain ⟨hW', hL'⟩ := map_set hW (es' := es.set i (key, x)) hl hg (ents' := ents.modify i fun e => { e with key := key', val := x' }) (clock' := clock) h1 h2 (by simp [h3]) (fun q k v hq => by
                rw [List.getElem?_set] at hq
                by_cases eq : i = q
                · subst eq
                  rw [if_pos rfl, if_pos h5] at hq
                  obtain ⟨rfl, rfl⟩ := Prod.mk.inj (Option.some.inj hq)
                  exact ⟨{ en with key := key', val := x' }, by rw [Array.getElem?_modify, if_pos rfl, h6']; rfl, hk, hx⟩
                · rw [if_neg eq] at hq
                  obtain ⟨e2, g1, g2⟩ := h4 q k v hq
                  exact ⟨e2, by rw [Array.getElem?_modify, if_neg eq]; exact g1, g2⟩)
              refine ⟨_, _, ι, h, ?_, hW', hL'⟩
              simp only [Nat.zero_add] at h8
              simp [Instr.mapUpdate, run_underlying hu, hck, MapKept.run_getObj_map h1, MapKept.run_findKey hd h8, h6', Instr.keyThatStays, h9, MapKept.run_setObj_map _ h1]
          · rename_i hres
            rcases findAt_sound hdk hf hk (ents := ents.toList) hres (by simpa using h3) (by simpa using h4) with ⟨_, h5⟩ | ⟨j, v, en, h0, _⟩
            · obtain ⟨hW', hL'⟩ := map_set hW (es' := es ++ [(key, x)]) hl hg (ents' := ents.push { key := key', val := x', born := clock }) (clock' := clock + 1) h1 h2 (by simp [h3]) (fun q k v hq => by
                by_cases eq : q < es.length
                · rw [List.getElem?_append_left eq] at hq
                  obtain ⟨e2, g1, g2⟩ := h4 q k v hq
                  exact ⟨e2, by rw [Array.getElem?_push, if_neg (by omega)]; exact g1, g2⟩
                · rw [List.getElem?_append_right (by omega)] at hq
                  have hq0 : q - es.length = 0 := by
                    have := (List.getElem?_eq_some_iff.1 hq).1
                    simp at this; omega
                  rw [hq0] at hq
                  obtain ⟨rfl, rfl⟩ := Prod.mk.inj (Option.some.inj hq)
                  exact ⟨_, by rw [Array.getElem?_push, if_pos (by omega)], hk, hx⟩)
              refine ⟨_, _, ι, h, ?_, hW', hL'⟩
              simp [Instr.mapUpdate, run_underlying hu, hck, MapKept.run_getObj_map h1, MapKept.run_findKey hd h5, MapKept.run_setObj_map _ h1]
            · cases h0
          · cases h
      · cases h
    · cases h
  · cases h

theorem delete_sound {t kt e : TypeId} {kd : EK} {m key : AV} {m' key' : Value} {ts : Array TypeId} {xs : Array Value} {ty : TypeId} {f : Store → Option α} (hts : ts[0]? = some t) (hx0 : xs[0]? = some m') (hx1 : xs[1]? = some key') (hu : P.underlying t = some (.map kt e)) (hkd : keyKind P kt = some kd) (h : aDelete kd m key s f = some r)
    (hm : VR ι s w m m') (hk : VR ι s w key key') (hW : WR B w0 ι s w) : ∃ s' w' ι', f s' = some r ∧ (Builtin.delete_ ts ty xs).run P w = .ok (.tuple #[]) w' ∧ WR B w0 ι' s' w' ∧ Later ι s w ι' s' w' := by
  obtain ⟨d, hd, hdk⟩ := keyKind_of hkd
  unfold aDelete at h
  split at h
  · rename_i hf
    have hck := fun b => check_sound (P := P) hd hdk hf hk b
    split at h
    · cases hm
      exact ⟨_, _, ι, h, by simp [Builtin.delete_, hts, hx0, hx1, run_underlying hu, hck], hW, Later.refl _ _ _⟩
    · rename_i l
      split at h
      · rename_i es hg
        cases hm with
        | map hl he ha =>
          obtain ⟨hr, ents, clock, h1, h2, h3, h4⟩ := map_of hW hl ha hg
          subst hr
          split at h
          · rename_i i v hres
            rcases findAt_sound hdk hf hk (ents := ents.toList) hres (by simpa using h3) (by simpa using h4) with ⟨h5, _⟩ | ⟨j, v, en, h0, h5, h6, h7, h8, h9⟩
            · cases h5
            · obtain ⟨e1, e2⟩ := Prod.mk.inj (Option.some.inj h0)
              subst e2
              have e1' : i = j := by omega
              subst e1'
              have hi : i < ents.size := by omega
              obtain ⟨hW', hL'⟩ := map_set hW (es' := es.eraseIdx i) hl hg (ents' := ents.eraseIdxIfInBounds i) (clock' := clock) h1 h2 (by
                rw [Array.eraseIdxIfInBounds, dif_pos hi, Array.size_eraseIdx, List.length_eraseIdx, if_pos h5, h3]) (fun q k v hq => by
                rw [Array.eraseIdxIfInBounds, dif_pos hi, Array.getElem?_eraseIdx]
                rw [List.getElem?_eraseIdx] at hq
                split at hq
                · rename_i hlt; rw [if_pos hlt]; exact h4 q k v hq
                · rename_i hlt; rw [if_neg hlt]; exact h4 (q + 1) k v hq)
              refine ⟨_, _, ι, h, ?_, hW', hL'⟩
              simp only [Nat.zero_add] at h8
              simp [Builtin.delete_, hts, hx0, hx1, run_underlying hu, hck, MapKept.run_getObj_map h1, MapKept.run_findKey hd h8, MapKept.run_setObj_map _ h1]
          · rename_i hres
            rcases findAt_sound hdk hf hk (ents := ents.toList) hres (by simpa using h3) (by simpa using h4) with ⟨_, h5⟩ | ⟨j, v, en, h0, _⟩
            · obtain ⟨hW', hL'⟩ := map_set hW (es' := es) hl hg (ents' := ents) (clock' := clock) h1 h2 h3 h4
              have hsame : s.set l (.map es) = s := by
                unfold Store.set
                congr 1
                funext j
                split
                · rename_i e; rw [e, hg]
                · rfl
              rw [hsame] at hW' hL'
              refine ⟨_, _, ι, h, ?_, hW', hL'⟩
              simp [Builtin.delete_, hts, hx0, hx1, run_underlying hu, hck, MapKept.run_getObj_map h1, MapKept.run_findKey hd h5, MapKept.run_setObj_map _ h1]
            · cases h0
          · cases h
      · cases h
    · cases h
  · cases h
end
end Go.Proofs.Ytmaidlndikcgkaa.Sim
namespace Go.Proofs.Ytmaidlndikcgkaa.Sim
open Go.RowKit (Below)
set_option linter.unusedSimpArgs false
section
variable {P : Program} {call : CallA} {B : Nat} {w0 : World} {ι : Nat → Loc} {s : Store} {w : World} {α : Type} {r : α} {κ : AV → Store → Option α}

theorem alloc_sound {t : TypeId} {zs : List AV} (hz : zerosOf P t = some zs) (h : aNew zs s κ = some r) (hW : WR B w0 ι s w) : Done P call B w0 ι s w (Instr.alloc t true (.tuple #[]) >>= fun a => pure (.value a)) κ r := by
  obtain ⟨i, z, hi, hzz, rfl, hone⟩ := zeros_of hz
  rcases new_sound (P := P) (call := call) t (vs := z.cells) h (vrs_ofVal ι s w z.cells.toList) hone hW with ⟨v, s', nx, v', w', ι', h1, h2, h3⟩ | ⟨g, args, args', v, s', h1, _⟩
  · refine .inl ⟨v, s', nx, v', w', ι', h1, ?_, h3⟩
    rw [Sem.run_bind, Instr.alloc, Sem.run_bind, run_zero hi hzz]
    rw [Sem.run_bind] at h2
    exact h2
  · simp [newRow] at h1

theorem box_sound {t : TypeId} {x : AV} {x' : Value} (h : (aCells x fun cs => aNew cs s κ) = some r) (hx : VR ι s w x x') (hW : WR B w0 ι s w) : Done P call B w0 ι s w (Instr.box t x' >>= fun a => pure (.value a)) κ r := by
  obtain ⟨cs, hk, hcs, hone⟩ := aCells_sound h hx
  exact new_sound (P := P) (call := call) t (vs := x'.cells) hk hcs hone hW

theorem mapM_sz (P : Program) (fs : List Field) : (fs.mapM fun f => (szOf P f.type).map fun n => (f.offset, n)) = fs.mapM (fun f => (P.info? f.type).map fun i => (f.offset, i.size)) := by
  congr 1
  funext f
  simp [szOf, Function.comp_def]

theorem builds_sound {t : TypeId} {zs : List AV} {pl : Nat → Option (Nat × Nat)} {ρ : Operand → AV} {ρ' : Operand → Value} {parts : Array (Nat × Operand)} {ps : List (Nat × Nat × AV)} {f : List AV → Option α} (hz : zerosOf P t = some zs) (hpl : placeOf P t = some pl) (hps : partsOf pl ρ parts.toList = some ps)
    (h : aBuild ps zs f = some r) (hρ : ∀ x, VR ι s w (ρ x) (ρ' x)) : ∃ cs c, f cs = some r ∧ (Instr.build t (parts.map fun (i, x) => (i, ρ' x))).run P w = .ok (.agg c) w ∧ VRs ι s w cs c.toList ∧ ∀ y ∈ c.toList, y.oneCell' = true := by
  obtain ⟨i, z, hi, hzz, rfl, hone⟩ := zeros_of hz
  obtain ⟨hl, hq⟩ := parts_of hρ hps
  obtain ⟨cs, c, h1, h2, h3, h4⟩ := build_sound (pl := pl) h (vrs_ofVal ι s w z.cells.toList) hone hl hq
  refine ⟨cs, c, h1, ?_, h3, h4⟩
  apply run_build
  have hto : (parts.map fun (i, x) => (i, ρ' x)).toList = parts.toList.map fun p => (p.1, ρ' p.2) := by simp
  rw [hto]
  unfold placeOf at hpl
  unfold Program.built
  split at hpl
  · rename_i fs hu
    obtain ⟨l, hl, rfl⟩ := Option.map_eq_some_iff.1 hpl
    rw [mapM_sz] at hl
    simp only [hi, hu, hzz, hl]
    simpa using h2
  · rename_i n e hu
    obtain ⟨n', hn, rfl⟩ := Option.map_eq_some_iff.1 hpl
    obtain ⟨ie, hie, rfl⟩ := size_of hn
    simp only [hi, hu, hzz, hie]
    exact h2
  · cases hpl

theorem buildSlice_core {t e : TypeId} {n c : Nat} {zs : List AV} {ρ : Operand → AV} {ρ' : Operand → Value} {parts : Array (Nat × Operand)} {f : List AV → Option α} (hu : P.underlying t = some (.slice e)) (hz : zerosOf P e = some zs) (hc : szOf P e = some c) (hn : n * c ≤ 16777216 ∧ zs.length = c)
    (h : aBuild (parts.toList.map fun p => (p.1 * c, c, ρ p.2)) (List.replicate n zs).flatten f = some r) (hρ : ∀ x, VR ι s w (ρ x) (ρ' x)) :
    ∃ cs cc, f cs = some r ∧ cs.length = n * c ∧ cc.size = n * c ∧ VRs ι s w cs cc.toList ∧ (∀ y ∈ cc.toList, y.oneCell' = true) ∧ (Instr.buildSlice t n (parts.map fun (i, x) => (i, ρ' x))).run P w = .ok (.slice (some ⟨w.heap.size, 0, none⟩) n n) (w.alloc (.cells cc e)) := by
  obtain ⟨i, z, hi, hzz, rfl, hone⟩ := zeros_of hz
  have hzl : z.cells.toList.length = c := by simpa using hn.2
  have hbase : (madeCells (if n * c = 0 then #[] else z.cells) (n * c)).toList = (List.replicate n z.cells.toList).flatten := by
    by_cases h0 : n * c = 0
    · rw [if_pos h0, h0]
      have : (List.replicate n z.cells.toList).flatten.length = 0 := by simp at hzl; simp [hzl, h0]
      rw [List.length_eq_zero_iff.1 this]
      simp [madeCells]
    · rw [if_neg h0]
      have hp : 0 < z.cells.toList.length := by rw [hzl]; exact Nat.pos_of_ne_zero (fun q => h0 (by rw [q]; simp))
      have := madeCells_take (zs := z.cells.toList) (n := n) (m := n) (Nat.le_refl _) hp
      rw [hzl] at this
      rw [← this, List.take_of_length_le (by simp [madeCells])]
  have hq : ∀ (j : Nat) p q, (parts.toList.map fun p => (p.1 * c, c, ρ p.2))[j]? = some p → (parts.toList.map fun p => (p.1, ρ' p.2))[j]? = some q → (fun i => some (i * c, c)) q.1 = some (p.1, p.2.1) ∧ VR ι s w p.2.2 q.2 := by
    intro j p q hp hq
    rw [List.getElem?_map] at hp hq
    cases hj : parts.toList[j]? with
    | none => rw [hj] at hp; cases hp
    | some x =>
      rw [hj] at hp hq
      simp only [Option.map_some, Option.some.injEq] at hp hq
      subst hp; subst hq
      exact ⟨rfl, hρ _⟩
  obtain ⟨cs, cc, h1, h2, h3, h4⟩ := build_sound (pl := fun i => some (i * c, c)) (c := madeCells (if n * c = 0 then #[] else z.cells) (n * c)) h (by rw [hbase]; exact (vrs_ofVal ι s w z.cells.toList).replicate n) (by
    rw [hbase]
    intro y hy
    obtain ⟨l, hl1, hl2⟩ := List.mem_flatten.1 hy
    rw [(List.mem_replicate.1 hl1).2] at hl2
    exact hone y hl2) (qs := parts.toList.map fun p => (p.1, ρ' p.2)) (by simp) hq
  have hcs : cs.length = n * c := by
    have hb : ∀ (ps : List (Nat × Nat × AV)) (cs0 : List AV) (f : List AV → Option α), aBuild ps cs0 f = some r → ∃ cs1, f cs1 = some r ∧ cs1.length = cs0.length := by
      intro ps
      induction ps with
      | nil => intro cs0 f hf; exact ⟨cs0, hf, rfl⟩
      | cons p ps ih =>
        intro cs0 f hf
        obtain ⟨o, sz, x⟩ := p
        simp only [aBuild] at hf
        have : ∃ vs, (if vs.length = sz ∧ o + sz ≤ cs0.length then aBuild ps (putAll cs0 o vs) f else none) = some r := by
          unfold aCells at hf
          split at hf
          · exact ⟨_, hf⟩
          · cases hf
          · cases hf
          · exact ⟨_, hf⟩
        obtain ⟨vs, hv⟩ := this
        split at hv
        · obtain ⟨cs1, k1, k2⟩ := ih _ _ hv
          exact ⟨cs1, k1, by rw [k2, putAll_length]⟩
        · cases hv
    have hfill : ∀ (qs : List (Nat × Value)) (pl : Nat → Option (Nat × Nat)) (c0 c1 : Array Value), Instr.fill pl c0 qs = some c1 → c1.size = c0.size := by
      intro qs
      induction qs with
      | nil => intro pl c0 c1 hf; simp only [Instr.fill] at hf; rw [Option.some.inj hf]
      | cons q qs ih =>
        intro pl c0 c1 hf
        obtain ⟨i, v⟩ := q
        simp only [Instr.fill] at hf
        split at hf
        · cases hf
        · split at hf
          · cases hf
          · rw [ih _ _ _ hf]
            rename_i hz1
            rw [← Array.foldl_toList]
            generalize v.cells.zipIdx.toList = l
            clear hf hz1
            induction l generalizing c0 with
            | nil => rfl
            | cons a l ih2 => rw [List.foldl_cons, ih2]; simp
    have := hfill _ _ _ _ h2
    have h3l := h3.1
    rw [size_madeCells] at this
    simp at h3l
    omega
  have hcc : cc.size = n * c := by have := h3.1; simp at this; omega
  refine ⟨cs, cc, h1, hcs, hcc, h3, h4, ?_⟩
  have hto : (parts.map fun (i, x) => (i, ρ' x)).toList = parts.toList.map fun p => (p.1, ρ' p.2) := by simp
  have hlim : ¬ n * c > 2 ^ 24 := by omega
  by_cases h0 : n * c = 0
  · rw [if_pos h0] at h2
    simp only [madeCells] at h2
    simp only [Instr.buildSlice, Sem.run_bind, run_underlying hu, Result.andThen_ok, run_size hc, Sem.run_ite, if_neg hlim, Sem.run_pure, if_pos h0, hto, h2, newRow, run_newObj]
    rfl
  · rw [if_neg h0] at h2
    simp only [madeCells] at h2
    simp only [Instr.buildSlice, Sem.run_bind, run_underlying hu, Result.andThen_ok, run_size hc, Sem.run_ite, if_neg hlim, Sem.run_pure, if_neg h0, run_zero hi hzz, hto, h2, newRow, run_newObj]
    rfl

theorem buildSlice_sound {t e : TypeId} {n c : Nat} {zs : List AV} {ρ : Operand → AV} {ρ' : Operand → Value} {parts : Array (Nat × Operand)} (hu : P.underlying t = some (.slice e)) (hz : zerosOf P e = some zs) (hc : szOf P e = some c) (hn : n * c ≤ 16777216 ∧ zs.length = c)
    (h : (aBuild (parts.toList.map fun p => (p.1 * c, c, ρ p.2)) (List.replicate n zs).flatten fun cs => κ (.sl s.next 0 n c (n * c)) (s.push (.cells cs false))) = some r) (hρ : ∀ x, VR ι s w (ρ x) (ρ' x)) (hW : WR B w0 ι s w) :
    Done P call B w0 ι s w (Instr.buildSlice t n (parts.map fun (i, x) => (i, ρ' x)) >>= fun a => pure (.value a)) κ r := by
  obtain ⟨cs, cc, h1, hcs, hcc, h3, h4, hrun⟩ := buildSlice_core (P := P) hu hz hc hn h hρ
  obtain ⟨ι', h5, h6, h7⟩ := push_cells hW (cs := cs) (c := cc) e (0, 0) false (w' := w.alloc (.cells cc e)) rfl rfl rfl rfl (by rw [List.take_of_length_le (by rw [h3.1]; exact Nat.le_refl _)]; exact h3) (by rw [List.take_of_length_le (by rw [h3.1]; exact Nat.le_refl _)]; exact h4) (fun _ => rfl)
  exact .v h1 hrun (new_sl h7 (c := cc) rfl hcs.symm (Nat.le_refl _) (by omega) (by omega)) h5 h6

theorem len_sound {x : AV} {x' : Value} {f : AV → Option α} {ts : Array TypeId} {xs : Array Value} {ty t e : TypeId} (hts : ts[0]? = some t) (hx0 : xs[0]? = some x') (hu : P.underlying t = some (.slice e)) (h : aLen x f = some r) (hx : VR ι s w x x') :
    ∃ v v', f v = some r ∧ (Builtin.len_ ts ty xs).run P w = .ok v' w ∧ VR ι s w v v' := by
  unfold aLen at h
  split at h
  · cases hx; exact ⟨_, _, h, by simp [Builtin.len_, hts, hx0, run_underlying hu, goInt], .int _ _⟩
  · cases hx; exact ⟨_, _, h, by simp [Builtin.len_, hts, hx0, run_underlying hu, goInt], .int _ _⟩
  · cases h

theorem lenStr_sound {x : AV} {x' : Value} {f : AV → Option α} {ts : Array TypeId} {xs : Array Value} {ty t : TypeId} (hts : ts[0]? = some t) (hx0 : xs[0]? = some x') (hu : P.underlying t = some .string) (h : aLenStr x f = some r) (hx : VR ι s w x x') :
    ∃ v v', f v = some r ∧ (Builtin.len_ ts ty xs).run P w = .ok v' w ∧ VR ι s w v v' := by
  unfold aLenStr at h
  split at h
  · cases hx; exact ⟨_, _, h, by simp [Builtin.len_, hts, hx0, run_underlying hu, goInt], .int _ _⟩
  · cases h

theorem lenMap_sound {x : AV} {x' : Value} {f : AV → Option α} {ts : Array TypeId} {xs : Array Value} {ty t kt e : TypeId} (hts : ts[0]? = some t) (hx0 : xs[0]? = some x') (hu : P.underlying t = some (.map kt e)) (h : aLenMap x s f = some r) (hx : VR ι s w x x') (hW : WR B w0 ι s w) :
    ∃ v v', f v = some r ∧ (Builtin.len_ ts ty xs).run P w = .ok v' w ∧ VR ι s w v v' := by
  unfold aLenMap at h
  split at h
  · cases hx; exact ⟨_, _, h, by simp [Builtin.len_, hts, hx0, run_underlying hu, goInt], .int _ _⟩
  · split at h
    · rename_i es hg
      cases hx with
      | map hl he ha =>
        obtain ⟨hr, ents, clock, h1, h2, h3, h4⟩ := map_of hW hl ha hg
        refine ⟨_, .int .i64 ents.size, h, ?_, ?_⟩
        · simp [Builtin.len_, hts, hx0, run_underlying hu, goInt, MapKept.run_getObj_map h1]
        · rw [h3]; exact .int _ _
    · cases h
  · cases h

theorem maxL_sound : ∀ {xs : List AV} {x : AV} {x' : Value} {xs' : List Value} {f : AV → Option α}, aMaxL x xs f = some r → VR ι s w x x' → VRs ι s w xs xs' → ∃ v v', f v = some r ∧ (xs'.foldlM Builtin.max2 x').run P w = .ok v' w ∧ VR ι s w v v'
  | [], x, x', xs', f, h, hx, hxs => by
    have : xs' = [] := List.length_eq_zero_iff.1 hxs.1.symm
    subst this
    exact ⟨_, _, h, rfl, hx⟩
  | y :: xs, x, x', [], f, h, hx, hxs => by have := hxs.1; simp at this
  | y :: xs, x, x', y' :: xs', f, h, hx, hxs => by
    simp only [aMaxL, aMax2] at h
    split at h
    · have hy := hxs.2 0 _ _ rfl rfl
      cases hx; cases hy
      obtain ⟨v, v', h1, h2, h3⟩ := maxL_sound h (.int _ _) (by simpa using hxs.drop 1)
      exact ⟨v, v', h1, by rw [List.foldlM_cons, Sem.run_bind]; exact h2, h3⟩
    · cases h
theorem minL_sound : ∀ {xs : List AV} {x : AV} {x' : Value} {xs' : List Value} {f : AV → Option α}, aMinL x xs f = some r → VR ι s w x x' → VRs ι s w xs xs' → ∃ v v', f v = some r ∧ (xs'.foldlM Builtin.min2 x').run P w = .ok v' w ∧ VR ι s w v v'
  | [], x, x', xs', f, h, hx, hxs => by
    have : xs' = [] := List.length_eq_zero_iff.1 hxs.1.symm
    subst this
    exact ⟨_, _, h, rfl, hx⟩
  | y :: xs, x, x', [], f, h, hx, hxs => by have := hxs.1; simp at this
  | y :: xs, x, x', y' :: xs', f, h, hx, hxs => by
    simp only [aMinL, aMin2] at h
    split at h
    · have hy := hxs.2 0 _ _ rfl rfl
      cases hx; cases hy
      obtain ⟨v, v', h1, h2, h3⟩ := minL_sound h (.int _ _) (by simpa using hxs.drop 1)
      exact ⟨v, v', h1, by rw [List.foldlM_cons, Sem.run_bind]; exact h2, h3⟩
    · cases h

/-- Calls that answer are calls of functions with bodies. -/
def Bodied (P : Program) (call : CallA) : Prop := ∀ g args s q, call g args s = some q → ∃ fn, P.funcs[g]? = some fn ∧ (fn.name == "runtime.NumGoroutine") = false ∧ fn.body.isNone = false

theorem call_sound {f : AV} {f' : Value} {args : List AV} {args' : Array Value} (hB : Bodied P call) (h : aCall call f args s κ = some r) (hf : VR ι s w f f') (ha : VRs ι s w args args'.toList) :
    Done P call B w0 ι s w (Deferred.ofValue f' args' >>= fun d => invoke d.target d.args) κ r := by
  unfold aCall at h
  split at h
  · rename_i g first cap
    cases hf with
    | func h1 h2 h3 h4 =>
      rename_i first' cap'
      cases hc : call g (first ++ args ++ cap) s with
      | none => rw [hc] at h; cases h
      | some q =>
        rw [hc] at h
        obtain ⟨fn, k1, k2, k3⟩ := hB _ _ _ _ hc
        refine .inr ⟨g, first ++ args ++ cap, first' ++ args' ++ cap', q.1, q.2, ?_, ?_, hc, h⟩
        · have k2' : ¬ fn.name = "runtime.NumGoroutine" := by simpa using k2
          have k3' : ¬ fn.body = none := by intro e; rw [e] at k3; cases k3
          simp [Deferred.ofValue, invoke, callFunc, k1, k2', k3']
        · have e1 : VRs ι s w first first'.toList := ⟨by simpa using h1, fun i x y hx hy => h2 i x y hx (by simpa using hy)⟩
          have e2 : VRs ι s w cap cap'.toList := ⟨by simpa using h3, fun i x y hx hy => h4 i x y hx (by simpa using hy)⟩
          have := (e1.append ha).append e2
          simpa using this
  · cases h
end
end Go.Proofs.Ytmaidlndikcgkaa.Sim
namespace Go.Proofs.Ytmaidlndikcgkaa.Sim
open Go.RowKit (Below)
set_option linter.unusedSimpArgs false
section
variable {P : Program} {call : CallA} {B : Nat} {w0 : World} {ι : Nat → Loc} {s : Store} {w : World} {α : Type} {r : α} {κ : AV → Store → Option α}

theorem elem_of {t e : TypeId} (he : Sim.elemOf P t = some e) : P.underlying t = some (.slice e) := by
  unfold Sim.elemOf at he
  split at he
  · rename_i hq; rw [hq, Option.some.inj he]
  · cases he

theorem builtin_sound {b : Builtin} {ts : Array TypeId} {ty : TypeId} {cs : Array Bool} {xs : List AV} {xs' : Array Value} (h : aBuiltin P b ts.toList xs s κ = some r) (hx : VRs ι s w xs xs'.toList) (hW : WR B w0 ι s w) :
    Done P call B w0 ι s w (builtin b ts ty cs xs') κ r := by
  unfold aBuiltin at h
  split at h
  · rename_i t tr x xr hts
    obtain ⟨x', hx0, hv⟩ := hx.get (i := 0) rfl
    have hts0 : ts[0]? = some t := by rw [← Array.getElem?_toList, hts]; rfl
    have hx0' : xs'[0]? = some x' := by rw [← Array.getElem?_toList]; exact hx0
    split at h
    · rename_i hu
      obtain ⟨v, v', k1, k2, k3⟩ := lenStr_sound (P := P) (ty := ty) hts0 hx0' hu h hv
      exact .v0 hW k1 k2 k3
    · rename_i e hu
      obtain ⟨v, v', k1, k2, k3⟩ := len_sound (P := P) (ty := ty) hts0 hx0' hu h hv
      exact .v0 hW k1 k2 k3
    · rename_i n e hu
      exact .v0 hW h (by simp [Builtin.len_, hts0, hx0', run_underlying hu, goInt]) (.int _ _)
    · rename_i kt e hu
      obtain ⟨v, v', k1, k2, k3⟩ := lenMap_sound (P := P) (ty := ty) hts0 hx0' hu h hv hW
      exact .v0 hW k1 k2 k3
    · cases h
  · rename_i t u x y hts
    have hts' : ts = #[t, u] := by apply Array.ext'; rw [hts]
    have hl : xs'.toList.length = 2 := by rw [← hx.1]; rfl
    obtain ⟨x', y', hxs⟩ : ∃ x' y', xs' = #[x', y'] := by
      match hq : xs'.toList, hl with
      | [p, q], _ => exact ⟨p, q, by apply Array.ext'; rw [hq]⟩
    subst hxs; subst hts'
    have h1 := hx.2 0 x x' rfl rfl
    have h2 := hx.2 1 y y' rfl rfl
    have hgo : ∀ {e : TypeId} {zs : List AV} {i : TypeInfo}, Sim.elemOf P t = some e → zerosOf P e = some zs → P.info? e = some i → zs.length = i.size → aAppend i.size i.bytes x y s κ = some r → ((∃ e', P.underlying u = some (.slice e')) ∨ P.underlying u = some .string) →
        Done P call B w0 ι s w (builtin .append #[t, u] ty cs #[x', y']) κ r := by
      intro e zs i he hz hi hl ha hu
      have ht : P.underlying t = some (.slice e) := by
        unfold Sim.elemOf at he
        split at he
        · rename_i hq; rw [hq, Option.some.inj he]
        · cases he
      obtain ⟨i', z, hi', hzz, rfl, hone⟩ := zeros_of hz
      obtain rfl : i = i' := Option.some.inj (hi.symm.trans hi')
      obtain ⟨v, s', v', w', ι', k1, k2, k3, k4, k5⟩ := append_sound (P := P) (ty := ty) ht hu ⟨hi, hzz, by simpa using hl, hone⟩ ha h1 h2 hW
      exact .v k1 k2 k3 k4 k5
    split at h
    · rename_i e e' he hu
      split at h
      · rename_i zs i hz hi
        split at h
        · rename_i hl; exact hgo he hz hi hl h (.inl ⟨_, hu⟩)
        · cases h
      · cases h
    · rename_i e he hu
      split at h
      · rename_i zs i hz hi
        split at h
        · rename_i hl; exact hgo he hz hi hl h (.inr hu)
        · cases h
      · cases h
    · cases h
  · rename_i t u x y hts
    have hts' : ts = #[t, u] := by apply Array.ext'; rw [hts]
    have hl : xs'.toList.length = 2 := by rw [← hx.1]; rfl
    obtain ⟨x', y', hxs⟩ : ∃ x' y', xs' = #[x', y'] := by
      match hq : xs'.toList, hl with
      | [p, q], _ => exact ⟨p, q, by apply Array.ext'; rw [hq]⟩
    subst hxs; subst hts'
    have h1 := hx.2 0 x x' rfl rfl
    have h2 := hx.2 1 y y' rfl rfl
    split at h
    · rename_i e he
      split at h
      · rename_i n hn
        have ht : P.underlying t = some (.slice e) := by
          unfold Sim.elemOf at he
          split at he
          · rename_i hq; rw [hq, Option.some.inj he]
          · cases he
        obtain ⟨v, s', v', w', ι', k1, k2, k3, k4, k5⟩ := copy_sound (P := P) (u := u) (ty := ty) ht hn h h1 h2 hW
        exact .v k1 k2 k3 k4 k5
      · cases h
    · cases h
  · rename_i t tr x hts
    have hts0 : ts[0]? = some t := by rw [← Array.getElem?_toList, hts]; rfl
    obtain ⟨x', hx0, hv⟩ := hx.get (i := 0) rfl
    have hx0' : xs'[0]? = some x' := by rw [← Array.getElem?_toList]; exact hx0
    split at h
    · rename_i e he
      split at h
      · rename_i zs i hz hi
        split at h
        · rename_i hl
          obtain ⟨s', w', ι', k1, k2, k3, k4⟩ := clear_sound (P := P) (ty := ty) hts0 hx0' (elem_of he) hz hi hl h hv hW
          exact .v k1 k2 (VRs.tup (ys := []) (.nil _ _ _)) k3 k4
        · cases h
      · cases h
    · cases h
  · rename_i x xr
    obtain ⟨y, ys, hy⟩ : ∃ y ys, xs'.toList = y :: ys := by
      match hq : xs'.toList with
      | [] => have := hx.1; rw [hq] at this; simp at this
      | y :: ys => exact ⟨y, ys, rfl⟩
    rw [hy] at hx
    obtain ⟨v, v', k1, k2, k3⟩ := maxL_sound (P := P) h (hx.2 0 _ _ rfl rfl) (by simpa using hx.drop 1)
    refine .v0 hW k1 ?_ k3
    simp only [Builtin.max_, hy]; exact k2
  · rename_i x xr
    obtain ⟨y, ys, hy⟩ : ∃ y ys, xs'.toList = y :: ys := by
      match hq : xs'.toList with
      | [] => have := hx.1; rw [hq] at this; simp at this
      | y :: ys => exact ⟨y, ys, rfl⟩
    rw [hy] at hx
    obtain ⟨v, v', k1, k2, k3⟩ := minL_sound (P := P) h (hx.2 0 _ _ rfl rfl) (by simpa using hx.drop 1)
    refine .v0 hW k1 ?_ k3
    simp only [Builtin.min_, hy]; exact k2
  · rename_i t tr m k hts
    have hts0 : ts[0]? = some t := by rw [← Array.getElem?_toList, hts]; rfl
    obtain ⟨m', hm0, hm⟩ := hx.get (i := 0) rfl
    obtain ⟨k', hk0, hk⟩ := hx.get (i := 1) rfl
    split at h
    · rename_i kt e hu
      split at h
      · rename_i kd hkd
        obtain ⟨s', w', ι', k1, k2, k3, k4⟩ := delete_sound (P := P) (ty := ty) hts0 (by rw [← Array.getElem?_toList]; exact hm0) (by rw [← Array.getElem?_toList]; exact hk0) hu hkd h hm hk hW
        exact .v k1 k2 (VRs.tup (ys := []) (.nil _ _ _)) k3 k4
      · cases h
    · cases h
  · cases h

theorem map_lo {ρ : Operand → AV} {ρ' : Operand → Value} (hρ : ∀ x, VR ι s w (ρ x) (ρ' x)) (o : Option Operand) : (∀ x, o.map ρ = some x → ∃ x', o.map ρ' = some x' ∧ VR ι s w x x') ∧ (o.map ρ = none → o.map ρ' = none) := by
  cases o with
  | none => exact ⟨fun x hx => (by cases hx), fun _ => rfl⟩
  | some q => exact ⟨fun x hx => by obtain rfl := Option.some.inj hx; exact ⟨_, rfl, hρ q⟩, fun hx => by cases hx⟩
theorem map_args {ρ : Operand → AV} {ρ' : Operand → Value} (hρ : ∀ x, VR ι s w (ρ x) (ρ' x)) (a : Array Operand) : VRs ι s w (a.toList.map ρ) (a.map ρ').toList :=
  ⟨by simp, fun i x y hx hy => by
    rw [List.getElem?_map] at hx
    rw [Array.toList_map, List.getElem?_map] at hy
    cases h : a.toList[i]? with
    | none => rw [h] at hx; cases hx
    | some q =>
      rw [h] at hx hy
      simp only [Option.map_some, Option.some.injEq] at hx hy
      subst hx; subst hy; exact hρ q⟩

theorem aop_sound {o : Oper} {ρ : Operand → AV} {ρ' : Operand → Value} (hB : Bodied P call) (hρ : ∀ x, VR ι s w (ρ x) (ρ' x)) (h : aop P call ρ o s κ = some r) (hW : WR B w0 ι s w) : Done P call B w0 ι s w (execOp ρ' o) κ r := by
  unfold aop at h
  unfold execOp
  split at h <;> rename_i ho <;> simp only [ho]
  · exact .inl ⟨_, _, _, _, _, ι, h, rfl, .inl rfl, hρ _, hW, Later.refl _ _ _⟩
  · exact .inl ⟨_, _, _, _, _, ι, h, rfl, .inl rfl, hρ _, hW, Later.refl _ _ _⟩
  · rename_i c a b
    unfold aPick at h
    split at h
    · rename_i t hc
      have := hρ c
      rw [hc] at this
      generalize hq : ρ' c = q at this
      cases this
      refine .inl ⟨_, _, _, if t then ρ' a else ρ' b, _, ι, h, by rw [Sem.run_bind]; rfl, .inl rfl, ?_, hW, Later.refl _ _ _⟩
      cases t
      · exact hρ b
      · exact hρ a
    · cases h
  · split at h
    · rename_i zs hz; exact alloc_sound hz h hW
    · cases h
  · exact box_sound h (hρ _) hW
  · split at h
    · rename_i zs pl hz hpl
      split at h
      · rename_i ps hps
        obtain ⟨cs, c, k1, k2, k3, k4⟩ := builds_sound hz hpl hps h hρ
        exact .v0 hW k1 k2 (by simpa using k3.agg k4)
      · cases h
    · cases h
  · split at h
    · rename_i e he
      split at h
      · rename_i zs c hz hc
        split at h
        · rename_i hn
          exact buildSlice_sound (elem_of he) hz hc hn h hρ hW
        · cases h
      · cases h
    · cases h
  · obtain ⟨v, v', k1, k2, k3⟩ := load_sound (P := P) h (hρ _) hW
    exact .v0 hW k1 k2 k3
  · split at h
    · rename_i n hn
      obtain ⟨s', w', ι', k1, k2, k3, k4⟩ := store_sound (P := P) hn h (hρ _) (hρ _) hW
      exact .u k1 k2 k3 k4
    · cases h
  · rename_i x
    have hx := hρ x
    unfold aNilCheck at h
    generalize ρ' x = x' at hx
    split at h <;> first
      | (cases h; done)
      | (rename_i hq; rw [hq] at hx; cases hx; exact .inl ⟨_, _, _, _, _, ι, h, rfl, .inl rfl, (by constructor <;> assumption), hW, Later.refl _ _ _⟩)
      | (rename_i hq; rw [hq] at hx; cases hx; exact .inl ⟨_, _, _, _, _, ι, h, rfl, .inl rfl, .nilsl, hW, Later.refl _ _ _⟩)
  · rename_i op t x y ty
    split at h
    · obtain ⟨v, v', k1, k2, k3⟩ := shift_sound (P := P) (t := t) (ox := x) (oy := y) h (hρ x) (hρ y); exact .v0 hW k1 k2 k3
    · obtain ⟨v, v', k1, k2, k3⟩ := shift_sound (P := P) (t := t) (ox := x) (oy := y) h (hρ x) (hρ y); exact .v0 hW k1 k2 k3
    · rename_i n1 n2
      split at h
      · obtain ⟨v, v', k1, k2, k3⟩ := bin_sound (P := P) (t := t) (ox := x) (oy := y) h ⟨n1, n2⟩ (hρ x) (hρ y); exact .v0 hW k1 k2 k3
      · obtain ⟨v, v', k1, k2, k3⟩ := bin_sound (P := P) (t := t) (ox := x) (oy := y) h ⟨n1, n2⟩ (hρ x) (hρ y); exact .v0 hW k1 k2 k3
      · rename_i e he
        split at h
        · obtain ⟨b, k1, k2, k3⟩ := eq_sound (P := P) (op := .eql) (ox := x) (oy := y) he h (hρ x) (hρ y); exact .v0 hW k1 k2 (.bool _)
        · obtain ⟨b, k1, k2, k3⟩ := eq_sound (P := P) (op := .neq) (ox := x) (oy := y) he h (hρ x) (hρ y); exact .v0 hW k1 k3 (.bool _)
        · cases h
      · cases h
  · obtain ⟨v, v', k1, k2, k3⟩ := un_sound (P := P) h (hρ _); exact .v0 hW k1 k2 k3
  · split at h
    · rename_i hs hd; obtain ⟨v, v', k1, k2, k3⟩ := conv_int_sound (P := P) hs hd h (hρ _); exact .v0 hW k1 k2 k3
    · rename_i hs hd; obtain ⟨b, k1, k2⟩ := conv_str_sound (P := P) hs hd h (hρ _); exact .v0 hW k1 k2 (.str _)
    · rename_i e hs hd
      split at h
      · rename_i he; exact bytesOf_sound hs hd he h (hρ _) hW
      · cases h
    · rename_i e hs hd
      split at h
      · rename_i he; obtain ⟨v, v', k1, k2, k3⟩ := strOf_sound (P := P) hs he hd h (hρ _) hW; exact .v0 hW k1 k2 k3
      · cases h
    · rename_i e1 e hs hd
      split at h
      · rename_i he
        split at h
        · rename_i hsd; subst hsd; exact convSl_sound hd he h (hρ _) hW
        · cases h
      · cases h
    · cases h
  · split at h
    · cases h
    · rename_i d hu hn
      refine .v0 hW h (v' := .iface _ (ρ' _)) ?_ (.iface (hρ _))
      cases d <;> first | (exact (hu _ rfl).elim) | (simp [Instr.makeInterface, run_underlying hn]; done)
    · cases h
  · rename_i f first cap
    refine .v0 hW h rfl ?_
    have e1 := map_args hρ first
    have e2 := map_args hρ cap
    exact .func (by simp) (fun i x y hx hy => e1.2 i x y hx (by rw [Array.getElem?_toList]; exact hy)) (by simp) (fun i x y hx hy => e2.2 i x y hx (by rw [Array.getElem?_toList]; exact hy))
  · exact makeMap_sound h hW
  · split at h
    · rename_i e he
      split at h
      · rename_i zs i hz hi
        split at h
        · rename_i hl
          exact makeSlice_sound (elem_of he) hz hi hl h (hρ _) (hρ _) hW
        · cases h
      · cases h
    · cases h
  · rename_i t x lo hi
    obtain ⟨l1, l2⟩ := map_lo hρ lo
    obtain ⟨g1, g2⟩ := map_lo hρ hi
    split at h
    · rename_i hu; obtain ⟨v, v', k1, k2, k3⟩ := cutStr_sound (P := P) hu h (hρ _) l1 l2 g1 g2; exact .v0 hW k1 k2 k3
    · rename_i e hu
      split at h
      · rename_i c hc; obtain ⟨v, v', k1, k2, k3⟩ := cutSl_sound (P := P) hu hc h (hρ _) l1 l2 g1 g2; exact .v0 hW k1 k2 k3
      · cases h
    · rename_i n e hu
      split at h
      · rename_i c hc; obtain ⟨v, v', k1, k2, k3⟩ := cutArr_sound (P := P) hu hc h (hρ _) hW l1 l2 g1 g2; exact .v0 hW k1 k2 k3
      · cases h
    · cases h
  · rename_i t x lo hi mx
    obtain ⟨l1, l2⟩ := map_lo hρ lo
    obtain ⟨g1, g2⟩ := map_lo hρ hi
    split at h
    · rename_i e hu
      split at h
      · rename_i c hc; obtain ⟨v, v', k1, k2, k3⟩ := cutCap_sound (P := P) hu hc h (hρ _) (hρ _) l1 l2 g1 g2; exact .v0 hW k1 k2 k3
      · cases h
    · cases h
  · split at h
    · rename_i fs hu
      split at h
      · rename_i f hf
        split at h
        · rename_i n hn
          split at h
          · rename_i h0; obtain ⟨v, v', k1, k2, k3⟩ := fieldAddr_sound (P := P) hu hf hn h0 h (hρ _); exact .v0 hW k1 k2 k3
          · cases h
        · cases h
      · cases h
    · cases h
  · split at h
    · rename_i fs hu
      split at h
      · rename_i f hf
        obtain ⟨v, v', k1, k2, k3⟩ := field_sound (P := P) hu hf h (hρ _); exact .v0 hW k1 k2 k3
      · cases h
    · cases h
  · split at h
    · rename_i e hu
      split at h
      · rename_i c hc; obtain ⟨v, v', k1, k2, k3⟩ := indexSl_sound (P := P) hu hc h (hρ _) (hρ _); exact .v0 hW k1 k2 k3
      · cases h
    · rename_i n e hu
      split at h
      · rename_i c hc; obtain ⟨v, v', k1, k2, k3⟩ := indexArr_sound (P := P) hu hc h (hρ _) (hρ _); exact .v0 hW k1 k2 k3
      · cases h
    · cases h
  · split at h
    · rename_i hu; obtain ⟨v, v', k1, k2, k3⟩ := indexStr_sound (P := P) hu h (hρ _) (hρ _); exact .v0 hW k1 k2 k3
    · rename_i n e hu
      split at h
      · rename_i b c hb hc; obtain ⟨v, v', k1, k2, k3⟩ := indexAgg_sound (P := P) hu hb hc h (hρ _) (hρ _); exact .v0 hW k1 k2 k3
      · cases h
    · cases h
  · split at h
    · rename_i kt e hu
      split at h
      · rename_i z hz
        split at h
        · rename_i kd hkd; obtain ⟨v, v', k1, k2, k3⟩ := lookup_sound (P := P) hu hkd hz h (hρ _) (hρ _) hW; exact .v0 hW k1 k2 k3
        · cases h
      · cases h
    · cases h
  · split at h
    · rename_i kt e hu
      split at h
      · rename_i kd hkd; obtain ⟨s', w', ι', k1, k2, k3, k4⟩ := mapUpdate_sound (P := P) hu hkd h (hρ _) (hρ _) (hρ _) hW; exact .u k1 k2 k3 k4
      · cases h
    · cases h
  · obtain ⟨v, v', k1, k2, k3⟩ := extract_sound (P := P) h (hρ _); exact .v0 hW k1 k2 k3
  · rename_i c
    have ha := map_args hρ c.args
    split at h
    · rename_i f hf
      simp only [resolve, hf]
      exact call_sound hB h (hρ f) ha
    · rename_i b hb
      simp only [resolve, hb]
      have := builtin_sound (call := call) (ty := o.type) (cs := c.args.map fun | .const _ => true | _ => false) h ha hW
      exact this
    · cases h
  · cases h
end
end Go.Proofs.Ytmaidlndikcgkaa.Sim
