/- The abstract machine is sound: new rows, builtins, calls; each operation. Plain lemmas. No condition. -/
import Derived.Test.YtjbgdpfkmcibbaaGreatDoorSimJ
import Derived.Laws.Tables
namespace Go.Proofs.YtjbgdpfkmcibbaaGreatDoor.Sim
set_option linter.unusedVariables false
open Go.RowKit (Below)
set_option linter.unusedSimpArgs false
section
variable {P : Program} {call : CallA} {B : Nat} {w0 : World} {ι : Nat → Loc} {s : Store} {w : World} {α : Type} {r : α} {κ : AV → Store → Option α}

theorem alloc_sound {t : TypeId} {zs : List AV} (hz : zerosOf P t = some zs) (h : aNew zs s κ = some r) (hW : WR B w0 ι s w) : Done P call B w0 ι s w (Instr.alloc t true (.tuple #[]) >>= fun a => pure (.value a)) κ r := by
  obtain ⟨i, z, hi, hzz, rfl, hone⟩ := zeros_of hz
  rcases new_sound (P := P) (call := call) t (vs := z.cells) h (vrs_ofVal ι s w z.cells.toList) hone hW with ⟨v, s', nx, v', w', ι', h1, h2, h3⟩ | ⟨g, args, args', v, s', h1, _⟩
  · refine .inl ⟨v, s', nx, v', w', ι', h1, ?_, h3⟩
    rw [Sem.run_bind, Instr.alloc, Sem.run_bind, run_zero hi hzz]
    rw [Sem.run_bind] at h2
    exact h2
  · simp [newRow] at h1

theorem box_sound {t : TypeId} {x : AV} {x' : Value} (h : (aCells x fun cs => aNew cs s κ) = some r) (hx : VR ι s w x x') (hW : WR B w0 ι s w) : Done P call B w0 ι s w (Instr.box t x' >>= fun a => pure (.value a)) κ r := by
  obtain ⟨cs, hk, hcs, hone⟩ := aCells_sound h hx
  exact new_sound (P := P) (call := call) t (vs := x'.cells) hk hcs hone hW

theorem mapM_sz (P : Program) (fs : List Field) : (fs.mapM fun f => (szOf P f.type).map fun n => (f.offset, n)) = fs.mapM (fun f => (P.info? f.type).map fun i => (f.offset, i.size)) := by
  congr 1
  funext f
  simp [szOf, Function.comp_def]

theorem builds_sound {t : TypeId} {zs : List AV} {pl : Nat → Option (Nat × Nat)} {ρ : Operand → AV} {ρ' : Operand → Value} {parts : Array (Nat × Operand)} {ps : List (Nat × Nat × AV)} {f : List AV → Option α} (hz : zerosOf P t = some zs) (hpl : placeOf P t = some pl) (hps : partsOf pl ρ parts.toList = some ps)
    (h : aBuild ps zs f = some r) (hρ : ∀ x, VR ι s w (ρ x) (ρ' x)) : ∃ cs c, f cs = some r ∧ (Instr.build t (parts.map fun (i, x) => (i, ρ' x))).run P w = .ok (.agg c) w ∧ VRs ι s w cs c.toList ∧ ∀ y ∈ c.toList, y.oneCell' = true := by
  obtain ⟨i, z, hi, hzz, rfl, hone⟩ := zeros_of hz
  obtain ⟨hl, hq⟩ := parts_of hρ hps
  obtain ⟨cs, c, h1, h2, h3, h4⟩ := build_sound (pl := pl) h (vrs_ofVal ι s w z.cells.toList) hone hl hq
  refine ⟨cs, c, h1, ?_, h3, h4⟩
  apply run_build
  have hto : (parts.map fun (i, x) => (i, ρ' x)).toList = parts.toList.map fun p => (p.1, ρ' p.2) := by simp
  rw [hto]
  unfold placeOf at hpl
  unfold Program.built
  split at hpl
  · rename_i fs hu
    obtain ⟨l, hl, rfl⟩ := Option.map_eq_some_iff.1 hpl
    rw [mapM_sz] at hl
    simp only [hi, hu, hzz, hl]
    simpa using h2
  · rename_i n e hu
    obtain ⟨n', hn, rfl⟩ := Option.map_eq_some_iff.1 hpl
    obtain ⟨ie, hie, rfl⟩ := size_of hn
    simp only [hi, hu, hzz, hie]
    exact h2
  · cases hpl

theorem buildSlice_core {t e : TypeId} {n c : Nat} {zs : List AV} {ρ : Operand → AV} {ρ' : Operand → Value} {parts : Array (Nat × Operand)} {f : List AV → Option α} (hu : P.underlying t = some (.slice e)) (hz : zerosOf P e = some zs) (hc : szOf P e = some c) (hn : n * c ≤ 16777216 ∧ zs.length = c)
    (h : aBuild (parts.toList.map fun p => (p.1 * c, c, ρ p.2)) (List.replicate n zs).flatten f = some r) (hρ : ∀ x, VR ι s w (ρ x) (ρ' x)) :
    ∃ cs cc, f cs = some r ∧ cs.length = n * c ∧ cc.size = n * c ∧ VRs ι s w cs cc.toList ∧ (∀ y ∈ cc.toList, y.oneCell' = true) ∧ (Instr.buildSlice t n (parts.map fun (i, x) => (i, ρ' x))).run P w = .ok (.slice (some ⟨w.heap.size, 0, none⟩) n n) (w.alloc (.cells cc e)) := by
  obtain ⟨i, z, hi, hzz, rfl, hone⟩ := zeros_of hz
  have hzl : z.cells.toList.length = c := by simpa using hn.2
  have hbase : (madeCells (if n * c = 0 then #[] else z.cells) (n * c)).toList = (List.replicate n z.cells.toList).flatten := by
    by_cases h0 : n * c = 0
    · rw [if_pos h0, h0]
      have : (List.replicate n z.cells.toList).flatten.length = 0 := by simp at hzl; simp [hzl, h0]
      rw [List.length_eq_zero_iff.1 this]
      simp [madeCells]
    · rw [if_neg h0]
      have hp : 0 < z.cells.toList.length := by rw [hzl]; exact Nat.pos_of_ne_zero (fun q => h0 (by rw [q]; simp))
      have := madeCells_take (zs := z.cells.toList) (n := n) (m := n) (Nat.le_refl _) hp
      rw [hzl] at this
      rw [← this, List.take_of_length_le (by simp [madeCells])]
  have hq : ∀ (j : Nat) p q, (parts.toList.map fun p => (p.1 * c, c, ρ p.2))[j]? = some p → (parts.toList.map fun p => (p.1, ρ' p.2))[j]? = some q → (fun i => some (i * c, c)) q.1 = some (p.1, p.2.1) ∧ VR ι s w p.2.2 q.2 := by
    intro j p q hp hq
    rw [List.getElem?_map] at hp hq
    cases hj : parts.toList[j]? with
    | none => rw [hj] at hp; cases hp
    | some x =>
      rw [hj] at hp hq
      simp only [Option.map_some, Option.some.injEq] at hp hq
      subst hp; subst hq
      exact ⟨rfl, hρ _⟩
  obtain ⟨cs, cc, h1, h2, h3, h4⟩ := build_sound (pl := fun i => some (i * c, c)) (c := madeCells (if n * c = 0 then #[] else z.cells) (n * c)) h (by rw [hbase]; exact (vrs_ofVal ι s w z.cells.toList).replicate n) (by
    rw [hbase]
    intro y hy
    obtain ⟨l, hl1, hl2⟩ := List.mem_flatten.1 hy
    rw [(List.mem_replicate.1 hl1).2] at hl2
    exact hone y hl2) (qs := parts.toList.map fun p => (p.1, ρ' p.2)) (by simp) hq
  have hcs : cs.length = n * c := by
    have hb : ∀ (ps : List (Nat × Nat × AV)) (cs0 : List AV) (f : List AV → Option α), aBuild ps cs0 f = some r → ∃ cs1, f cs1 = some r ∧ cs1.length = cs0.length := by
      intro ps
      induction ps with
      | nil => intro cs0 f hf; exact ⟨cs0, hf, rfl⟩
      | cons p ps ih =>
        intro cs0 f hf
        obtain ⟨o, sz, x⟩ := p
        simp only [aBuild] at hf
        have : ∃ vs, (if vs.length = sz ∧ o + sz ≤ cs0.length then aBuild ps (putAll cs0 o vs) f else none) = some r := by
          unfold aCells at hf
          split at hf
          · exact ⟨_, hf⟩
          · cases hf
          · cases hf
          · exact ⟨_, hf⟩
        obtain ⟨vs, hv⟩ := this
        split at hv
        · obtain ⟨cs1, k1, k2⟩ := ih _ _ hv
          exact ⟨cs1, k1, by rw [k2, putAll_length]⟩
        · cases hv
    have hfill : ∀ (qs : List (Nat × Value)) (pl : Nat → Option (Nat × Nat)) (c0 c1 : Array Value), Instr.fill pl c0 qs = some c1 → c1.size = c0.size := by
      intro qs
      induction qs with
      | nil => intro pl c0 c1 hf; simp only [Instr.fill] at hf; rw [Option.some.inj hf]
      | cons q qs ih =>
        intro pl c0 c1 hf
        obtain ⟨i, v⟩ := q
        simp only [Instr.fill] at hf
        split at hf
        · cases hf
        · split at hf
          · cases hf
          · rw [ih _ _ _ hf]
            rename_i hz1
            rw [← Array.foldl_toList]
            generalize v.cells.zipIdx.toList = l
            clear hf hz1
            induction l generalizing c0 with
            | nil => rfl
            | cons a l ih2 => rw [List.foldl_cons, ih2]; simp
    have := hfill _ _ _ _ h2
    have h3l := h3.1
    rw [size_madeCells] at this
    simp at h3l
    omega
  have hcc : cc.size = n * c := by have := h3.1; simp at this; omega
  refine ⟨cs, cc, h1, hcs, hcc, h3, h4, ?_⟩
  have hto : (parts.map fun (i, x) => (i, ρ' x)).toList = parts.toList.map fun p => (p.1, ρ' p.2) := by simp
  have hlim : ¬ n * c > 2 ^ 24 := by omega
  by_cases h0 : n * c = 0
  · rw [if_pos h0] at h2
    simp only [madeCells] at h2
    simp only [Instr.buildSlice, Sem.run_bind, run_underlying hu, Result.andThen_ok, run_size hc, Sem.run_ite, if_neg hlim, Sem.run_pure, if_pos h0, hto, h2, newRow, run_newObj]
    rfl
  · rw [if_neg h0] at h2
    simp only [madeCells] at h2
    simp only [Instr.buildSlice, Sem.run_bind, run_underlying hu, Result.andThen_ok, run_size hc, Sem.run_ite, if_neg hlim, Sem.run_pure, if_neg h0, run_zero hi hzz, hto, h2, newRow, run_newObj]
    rfl

theorem buildSlice_sound {t e : TypeId} {n c : Nat} {zs : List AV} {ρ : Operand → AV} {ρ' : Operand → Value} {parts : Array (Nat × Operand)} (hu : P.underlying t = some (.slice e)) (hz : zerosOf P e = some zs) (hc : szOf P e = some c) (hn : n * c ≤ 16777216 ∧ zs.length = c)
    (h : (aBuild (parts.toList.map fun p => (p.1 * c, c, ρ p.2)) (List.replicate n zs).flatten fun cs => κ (.sl s.next 0 n c (n * c)) (s.push (.cells cs false))) = some r) (hρ : ∀ x, VR ι s w (ρ x) (ρ' x)) (hW : WR B w0 ι s w) :
    Done P call B w0 ι s w (Instr.buildSlice t n (parts.map fun (i, x) => (i, ρ' x)) >>= fun a => pure (.value a)) κ r := by
  obtain ⟨cs, cc, h1, hcs, hcc, h3, h4, hrun⟩ := buildSlice_core (P := P) hu hz hc hn h hρ
  obtain ⟨ι', h5, h6, h7⟩ := push_cells hW (cs := cs) (c := cc) e (0, 0) false (w' := w.alloc (.cells cc e)) rfl rfl rfl rfl (by rw [List.take_of_length_le (by rw [h3.1]; exact Nat.le_refl _)]; exact h3) (by rw [List.take_of_length_le (by rw [h3.1]; exact Nat.le_refl _)]; exact h4) (fun _ => rfl)
  exact .v h1 hrun (new_sl h7 (c := cc) rfl hcs.symm (Nat.le_refl _) (by omega) (by omega)) h5 h6

theorem len_sound {x : AV} {x' : Value} {f : AV → Option α} {ts : Array TypeId} {xs : Array Value} {ty t e : TypeId} (hts : ts[0]? = some t) (hx0 : xs[0]? = some x') (hu : P.underlying t = some (.slice e)) (h : aLen x f = some r) (hx : VR ι s w x x') :
    ∃ v v', f v = some r ∧ (Builtin.len_ ts ty xs).run P w = .ok v' w ∧ VR ι s w v v' := by
  unfold aLen at h
  split at h
  · cases hx; exact ⟨_, _, h, by simp [Builtin.len_, hts, hx0, run_underlying hu, goInt], .int _ _⟩
  · cases hx; exact ⟨_, _, h, by simp [Builtin.len_, hts, hx0, run_underlying hu, goInt], .int _ _⟩
  · cases h

theorem zeroCells_flat {z : Array Value} {n : Nat} (hz : 0 < z.size) : (Builtin.zeroCells z n).toList = (List.replicate n z.toList).flatten := by
  have h := madeCells_take (zs := z.toList) (n := n) (m := n) (Nat.le_refl _) (by simpa using hz)
  rw [← h]
  rw [List.take_of_length_le (by simp [madeCells])]
  simp [Builtin.zeroCells, madeCells]

theorem appendMake_sound {t u e ty : TypeId} {ku : IntKind} {i : TypeInfo} {z : Value} {x y : AV} {x' y' : Value} {κ : AV → Store → Option α} (ht : P.underlying t = some (.slice e)) (hu : P.underlying u = some (.int ku)) (he : ElemOk P e i z)
    (h : aAppendMake (z.cells.toList.map ofVal) i.size i.bytes x y s κ = some r) (hx : VR ι s w x x') (hy : VR ι s w y y') (hW : WR B w0 ι s w) :
    ∃ v s' v' w' ι', κ v s' = some r ∧ (Builtin.append_ #[t, u] ty #[x', y']).run P w = .ok v' w' ∧ VR ι' s' w' v v' ∧ WR B w0 ι' s' w' ∧ Later ι s w ι' s' w' := by
  unfold aAppendMake at h
  split at h
  · rename_i k n
    cases hx; cases hy
    split at h
    · rename_i h0
      subst h0
      have w0' : IntKind.i64.wrap 0 = 0 := by rfl
      refine ⟨_, _, .slice none 0 0, w, ι, h, ?_, .nilsl, hW, Later.refl _ _ _⟩
      simp [Builtin.append_, run_underlying ht, run_underlying hu, sizeOf, Go.run_typeInfo _ he.info, asInt, asIntOf, w0']
    · rename_i h0
      split at h
      · rename_i hb
        obtain ⟨h1, h2, h3, h4, h5⟩ := hb
        obtain ⟨m, rfl⟩ : ∃ m : Nat, n = (m : Int) := ⟨n.toNat, by omega⟩
        rw [Int.toNat_natCast] at h
        have hm : 0 < m := by omega
        have hw : IntKind.i64.wrap (m : Int) = (m : Int) := by
          simp [IntKind.wrap, IntKind.bits, IntKind.signed]; omega
        have hmb : m * i.bytes ≤ 140737488355328 := by
          have : ((m * i.bytes : Nat) : Int) ≤ 140737488355328 := by rw [Int.natCast_mul]; exact h3
          omega
        have hrun : ∃ cap, m ≤ cap ∧ (Builtin.append_ #[t, u] ty #[.slice none 0 0, .int k (m : Int)]).run P w =
            .ok (.slice (some ⟨w.heap.size, 0, none⟩) m cap) (w.drew.alloc (.cells (#[] ++ Builtin.zeroCells z.cells m ++ Builtin.zeroCells z.cells (cap - m)) e)) := by
          refine ⟨(Question.appendCap m 0 e).cut (w.tape w.drawn (.appendCap m 0 e)), by simp [Question.cut], ?_⟩
          have q1 : ¬ (9223372036854775807 : Int) < (m : Int) := by omega
          have q2 : ¬ 281474976710656 < Builtin.nextslicecap m 0 * i.bytes := by
            have := Nat.mul_le_mul_right i.bytes (nextslicecap_le m 0 (by omega))
            rw [Nat.mul_assoc] at this
            omega
          have q3 : (Question.appendCap m 0 e).forced = false := rfl
          have q4 : ¬ (281474976710656 : Int) < (m : Int) * (i.bytes : Int) := by
            have : ((m * i.bytes : Nat) : Int) ≤ 140737488355328 := by omega
            rw [Int.natCast_mul] at this
            omega
          have q5 : ¬ (m : Int) < 0 := by omega
          have q6 : ¬ m ≤ 0 := by omega
          have q7 : ¬ m = 0 := by omega
          have q8 : ¬ m * i.size = 0 := Nat.ne_of_gt (Nat.mul_pos hm h5)
          simp [Builtin.append_, Builtin.firstCells, run_underlying ht, run_underlying hu, sizeOf, Go.run_typeInfo _ he.info, asInt, asIntOf, hw, q1, q2, q3, q4, q5, q6, q7, q8, zeroValue, he.zero, newRow]
        obtain ⟨cap, hcap, hrun⟩ := hrun
        generalize hc : (#[] ++ Builtin.zeroCells z.cells m ++ Builtin.zeroCells z.cells (cap - m)) = c at hrun
        have hzs : z.cells.size = i.size := he.size
        have hlen : (List.replicate m (z.cells.toList.map ofVal)).flatten.length = m * i.size := by simp [hzs]
        have hl2 : (List.replicate m z.cells.toList).flatten.length = m * i.size := by simp [hzs]
        have hcs : c.toList.take (List.replicate m (z.cells.toList.map ofVal)).flatten.length = (List.replicate m z.cells.toList).flatten := by
          rw [← hc, hlen]
          simp only [Array.toList_append, List.nil_append]
          rw [zeroCells_flat (n := m) (by omega), List.take_left' hl2]
        have hsz : c.size = cap * i.size := by
          rw [← hc]
          simp only [Array.size_append, zeroCells_size, hzs, List.size_toArray, List.length_nil]
          rw [Nat.zero_add, ← Nat.add_mul]; congr 1; omega
        obtain ⟨ι', h5', h6, h7⟩ := push_cells hW (cs := (List.replicate m (z.cells.toList.map ofVal)).flatten) (c := c) e (0, 0) false (w' := w.drew.alloc (.cells c e)) rfl rfl rfl rfl (by rw [hcs]; exact (vrs_ofVal ι s w z.cells.toList).replicate _) (by
          rw [hcs]
          intro y hy
          obtain ⟨l, hl1, hl2⟩ := List.mem_flatten.1 hy
          rw [(List.mem_replicate.1 hl1).2] at hl2
          exact he.one y hl2) (fun _ => rfl)
        exact ⟨_, _, _, _, ι', h, hrun, new_sl h7 (c := c) rfl hlen.symm (by omega) (by rw [hsz]; exact Nat.le_refl _) (by rw [hlen]; exact Nat.mul_le_mul_right _ hcap), h5', h6⟩
      · cases h
  · cases h

theorem cap_sound {x : AV} {x' : Value} {f : AV → Option α} {ts : Array TypeId} {xs : Array Value} {ty t e : TypeId} (hts : ts[0]? = some t) (hx0 : xs[0]? = some x') (hu : P.underlying t = some (.slice e)) (h : aCap x f = some r) (hx : VR ι s w x x') :
    ∃ v v', f v = some r ∧ (Builtin.cap_ ts ty xs).run P w = .ok v' w ∧ VR ι s w v v' := by
  unfold aCap at h
  split at h
  · cases hx; exact ⟨_, _, h, by simp [Builtin.cap_, hts, hx0, run_underlying hu, goInt], .int _ _⟩
  · cases h

theorem lenStr_sound {x : AV} {x' : Value} {f : AV → Option α} {ts : Array TypeId} {xs : Array Value} {ty t : TypeId} (hts : ts[0]? = some t) (hx0 : xs[0]? = some x') (hu : P.underlying t = some .string) (h : aLenStr x f = some r) (hx : VR ι s w x x') :
    ∃ v v', f v = some r ∧ (Builtin.len_ ts ty xs).run P w = .ok v' w ∧ VR ι s w v v' := by
  unfold aLenStr at h
  split at h
  · cases hx; exact ⟨_, _, h, by simp [Builtin.len_, hts, hx0, run_underlying hu, goInt], .int _ _⟩
  · cases h

theorem lenMap_sound {x : AV} {x' : Value} {f : AV → Option α} {ts : Array TypeId} {xs : Array Value} {ty t kt e : TypeId} (hts : ts[0]? = some t) (hx0 : xs[0]? = some x') (hu : P.underlying t = some (.map kt e)) (h : aLenMap x s f = some r) (hx : VR ι s w x x') (hW : WR B w0 ι s w) :
    ∃ v v', f v = some r ∧ (Builtin.len_ ts ty xs).run P w = .ok v' w ∧ VR ι s w v v' := by
  unfold aLenMap at h
  split at h
  · cases hx; exact ⟨_, _, h, by simp [Builtin.len_, hts, hx0, run_underlying hu, goInt], .int _ _⟩
  · split at h
    · rename_i es st hg
      cases hx with
      | map hl he ha =>
        obtain ⟨hr, ents, clock, h1, h2, h3, h4, _⟩ := map_of hW hl ha hg
        refine ⟨_, .int .i64 ents.size, h, ?_, ?_⟩
        · simp [Builtin.len_, hts, hx0, run_underlying hu, goInt, MapKept.run_getObj_map h1]
        · rw [h3]; exact .int _ _
    · cases h
  · cases h

theorem maxL_sound : ∀ {xs : List AV} {x : AV} {x' : Value} {xs' : List Value} {f : AV → Option α}, aMaxL x xs f = some r → VR ι s w x x' → VRs ι s w xs xs' → ∃ v v', f v = some r ∧ (xs'.foldlM Builtin.max2 x').run P w = .ok v' w ∧ VR ι s w v v'
  | [], x, x', xs', f, h, hx, hxs => by
    have : xs' = [] := List.length_eq_zero_iff.1 hxs.1.symm
    subst this
    exact ⟨_, _, h, rfl, hx⟩
  | y :: xs, x, x', [], f, h, hx, hxs => by have := hxs.1; simp at this
  | y :: xs, x, x', y' :: xs', f, h, hx, hxs => by
    simp only [aMaxL, aMax2] at h
    split at h
    · have hy := hxs.2 0 _ _ rfl rfl
      cases hx; cases hy
      obtain ⟨v, v', h1, h2, h3⟩ := maxL_sound h (.int _ _) (by simpa using hxs.drop 1)
      exact ⟨v, v', h1, by rw [List.foldlM_cons, Sem.run_bind]; exact h2, h3⟩
    · cases h
theorem minL_sound : ∀ {xs : List AV} {x : AV} {x' : Value} {xs' : List Value} {f : AV → Option α}, aMinL x xs f = some r → VR ι s w x x' → VRs ι s w xs xs' → ∃ v v', f v = some r ∧ (xs'.foldlM Builtin.min2 x').run P w = .ok v' w ∧ VR ι s w v v'
  | [], x, x', xs', f, h, hx, hxs => by
    have : xs' = [] := List.length_eq_zero_iff.1 hxs.1.symm
    subst this
    exact ⟨_, _, h, rfl, hx⟩
  | y :: xs, x, x', [], f, h, hx, hxs => by have := hxs.1; simp at this
  | y :: xs, x, x', y' :: xs', f, h, hx, hxs => by
    simp only [aMinL, aMin2] at h
    split at h
    · have hy := hxs.2 0 _ _ rfl rfl
      cases hx; cases hy
      obtain ⟨v, v', h1, h2, h3⟩ := minL_sound h (.int _ _) (by simpa using hxs.drop 1)
      exact ⟨v, v', h1, by rw [List.foldlM_cons, Sem.run_bind]; exact h2, h3⟩
    · cases h

/-- Calls that answer are calls of functions with bodies. -/
def Bodied (P : Program) (call : CallA) : Prop := MethFine P ∧ ∀ g args s q, call g args s = some q → ∃ fn, P.funcs[g]? = some fn ∧ (fn.name == "runtime.NumGoroutine") = false ∧ fn.body.isNone = false

theorem call_sound {f : AV} {f' : Value} {args : List AV} {args' : Array Value} (hB : Bodied P call) (h : aCall call f args s κ = some r) (hf : VR ι s w f f') (ha : VRs ι s w args args'.toList) :
    Done P call B w0 ι s w (Deferred.ofValue f' args' >>= fun d => invoke d.target d.args) κ r := by
  unfold aCall at h
  split at h
  · rename_i g first cap
    cases hf with
    | func h1 h2 h3 h4 =>
      rename_i first' cap'
      cases hc : call g (first ++ args ++ cap) s with
      | none => rw [hc] at h; cases h
      | some q =>
        rw [hc] at h
        obtain ⟨fn, k1, k2, k3⟩ := hB.2 _ _ _ _ hc
        refine .inr ⟨g, first ++ args ++ cap, first' ++ args' ++ cap', q.1, q.2, ?_, ?_, hc, h⟩
        · have k2' : ¬ fn.name = "runtime.NumGoroutine" := by simpa using k2
          have k3' : ¬ fn.body = none := by intro e; rw [e] at k3; cases k3
          simp [Deferred.ofValue, invoke, callFunc, k1, k2', k3']
        · have e1 : VRs ι s w first first'.toList := ⟨by simpa using h1, fun i x y hx hy => h2 i x y hx (by simpa using hy)⟩
          have e2 : VRs ι s w cap cap'.toList := ⟨by simpa using h3, fun i x y hx hy => h4 i x y hx (by simpa using hy)⟩
          have := (e1.append ha).append e2
          simpa using this
  · cases h
/-! ### what goes through maps and strings; methods; assertions -/
theorem obj_set (hW : WR B w0 ι s w) {l : Nat} {o' : AObj} {O O' : Obj} (hl : l < s.next) (hwr : (s.get l).wr = true) (h1 : (s.get l).size = 1) (h2 : o'.size = 1) (hb : w.heap[(ι l).b]? = some O) (hB : B ≤ (ι l).b) (hO : ∀ c ty fz, O ≠ .cells c ty fz) (hO' : ∀ c ty fz, O' ≠ .cells c ty fz)
    (ho : Later ι s w ι (s.set l o') { w with heap := w.heap.setIfInBounds (ι l).b O' } → OR B ι (s.set l o') { w with heap := w.heap.setIfInBounds (ι l).b O' } o' (ι l)) :
    WR B w0 ι (s.set l o') { w with heap := w.heap.setIfInBounds (ι l).b O' } ∧ Later ι s w ι (s.set l o') { w with heap := w.heap.setIfInBounds (ι l).b O' } := by
  have hs1 := (MapKept.heap_set (o' := O') hb).1
  have hs2 := (MapKept.heap_set (o' := O') hb).2
  have hz : bsz { w with heap := w.heap.setIfInBounds (ι l).b O' } (ι l).b = bsz w (ι l).b := by
    unfold bsz
    simp only [hs1, hb]
    cases O <;> first | (exact absurd rfl (hO _ _ _)) | (cases O' <;> first | (exact absurd rfl (hO' _ _ _)) | rfl)
  have := hW.update hl hwr hB o' (ι l) (by omega) (fun _ => rfl) (w' := { w with heap := w.heap.setIfInBounds (ι l).b O' }) rfl rfl rfl (by simp) (fun b _ hne => hs2 b hne) hz (.inl rfl) (fun k => by
    rw [upd_self] at k ⊢
    exact ho k)
  rw [upd_self] at this
  exact this
theorem new_it {ι' : Nat → Loc} {o : AObj} {w' : World} (ho : o.size = 1) (hi : ι' s.next = ⟨w.heap.size, 0, 0⟩) : VR ι' (s.push o) w' (.ptr s.next 0 0) (.pointer (some ⟨w.heap.size, 0, none⟩)) := by
  have g : (s.push o).get s.next = o := by simp [Store.push]
  refine .ptr (by simp [Store.push]) (by rw [g, ho]; exact Nat.le_refl _) (fun _ => ?_)
  rw [hi]
  exact ⟨Nat.le_refl _, rfl⟩
theorem rangeMap_sound {t kt e : TypeId} {m : AV} {m' : Value} (hu : P.underlying t = some (.map kt e)) (h : aRangeMap m s κ = some r) (hm : VR ι s w m m') (hW : WR B w0 ι s w) : Done P call B w0 ι s w (Instr.range t m' >>= fun a => pure (.value a)) κ r := by
  unfold aRangeMap at h
  split at h
  · cases hm
    obtain ⟨h5, h6⟩ := hW.push (.miter .nilmap 0 [] 0) ⟨w.heap.size, 0, 0⟩ (w' := { w with heap := w.heap.push (.mapIter none 0 #[] 0) }) rfl rfl rfl (by simp) (fun b hb => by simp only [Array.getElem?_push, if_neg (show ¬ b = w.heap.size by omega)]) (Nat.le_refl _)
      (fun _ => ⟨none, by simp, hW.hB, .nilmap, rfl⟩)
    exact .v h (v' := .pointer (some ⟨w.heap.size, 0, none⟩)) (by simp [Instr.range, run_underlying hu, newObj, Sem.run]) (new_it rfl (by simp)) h5 h6
  · rename_i l
    split at h
    · rename_i es st hg
      cases hm with
      | map hl he ha =>
        rename_i rr
        obtain ⟨hr, ents, clock, h1, h2, h3, h4, hst⟩ := map_of hW hl ha hg
        obtain ⟨h5, h6⟩ := hW.push (.miter (.map l) st.2 [] st.2) ⟨w.heap.size, 0, 0⟩ (w' := { w with heap := w.heap.push (.mapIter (some rr) clock #[] clock) }) rfl rfl rfl (by simp) (fun b hb => by simp only [Array.getElem?_push, if_neg (show ¬ b = w.heap.size by omega)]) (Nat.le_refl _)
          (fun k => ⟨some rr, by rw [hst]; simp, hW.hB, (VR.map hl he ha).later k, rfl⟩)
        refine .v h (v' := .pointer (some ⟨w.heap.size, 0, none⟩)) ?_ (new_it rfl (by simp)) h5 h6
        simp [Instr.range, run_underlying hu, newObj, Sem.run, getObj, h1]
    · cases h
  · cases h
theorem rangeStr_sound {t : TypeId} {x : AV} {x' : Value} (hu : P.underlying t = some .string) (h : aRangeStr x s κ = some r) (hx : VR ι s w x x') (hW : WR B w0 ι s w) : Done P call B w0 ι s w (Instr.range t x' >>= fun a => pure (.value a)) κ r := by
  unfold aRangeStr aStr at h
  split at h
  · rename_i b
    cases hx
    obtain ⟨h5, h6⟩ := hW.push (.siter b 0) ⟨w.heap.size, 0, 0⟩ (w' := { w with heap := w.heap.push (.stringIter b 0) }) rfl rfl rfl (by simp) (fun b hb => by simp only [Array.getElem?_push, if_neg (show ¬ b = w.heap.size by omega)]) (Nat.le_refl _)
      (fun _ => ⟨by simp, hW.hB, rfl⟩)
    exact .v h (v' := .pointer (some ⟨w.heap.size, 0, none⟩)) (by simp [Instr.range, run_underlying hu, newObj, Sem.run]) (new_it rfl (by simp)) h5 h6
  · cases h
theorem it_addr (hW : WR B w0 ι s w) {l : Nat} {p' : Value} (hp : VR ι s w (.ptr l 0 0) p') (h1 : (s.get l).size = 1) (ho : (ι l).o = 0) : l < s.next ∧ p' = .pointer (some ⟨(ι l).b, 0, none⟩) := by
  cases hp with
  | ptr hl he ha =>
    obtain ⟨g1, g2⟩ := ha h1
    refine ⟨hl, ?_⟩
    rw [g2, ho]
    congr 2
    simp
theorem nextStr_sound {p : AV} {p' : Value} {ty : TypeId} (h : aNextStr p s κ = some r) (hp : VR ι s w p p') (hW : WR B w0 ι s w) : Done P call B w0 ι s w (Instr.next p' true ty >>= fun a => pure (.value a)) κ r := by
  unfold aNextStr at h
  split at h
  · rename_i l
    split at h
    · rename_i b pos hg
      have hl0 : l < s.next := by cases hp; assumption
      have ho := hW.obj l hl0
      rw [hg] at ho
      obtain ⟨g1, g2, g3⟩ := ho
      obtain ⟨hl, rfl⟩ := it_addr hW hp (by rw [hg]; rfl) g3
      split at h
      · rename_i hpos
        obtain ⟨h5, h6⟩ := obj_set hW (o' := .siter b (pos + (Utf8.decode b pos).2)) (O' := .stringIter b (pos + (Utf8.decode b pos).2)) hl (by rw [hg]; rfl) (by rw [hg]; rfl) rfl g1 g2 (by simp) (by simp) (fun _ => ⟨(MapKept.heap_set g1).1, g2, g3⟩)
        refine .v h (v' := .tuple #[.bool true, .int .i64 pos, .int .i32 (Utf8.decode b pos).1]) ?_ (VRs.tup (ys := [.bool true, .int .i64 pos, .int .i32 (Utf8.decode b pos).1]) (.cons (.bool _) (.cons (.int _ _) (.cons (.int _ _) (.nil _ _ _))))) h5 h6
        simp [Instr.next, getObj, setObj, Sem.run, g1, hpos, goInt]
      · rename_i hpos
        refine .v0 hW h (v' := .tuple #[.bool false]) ?_ (VRs.tup (ys := [.bool false]) (.cons (.bool _) (.nil _ _ _)))
        simp [Instr.next, getObj, Sem.run, g1, hpos]
    · cases h
  · cases h
theorem zip_filter {es : List (AV × AV)} {ents : List MapEntry} (g : Nat → Bool) (hl : es.length = ents.length) : ∃ es' : List (AV × AV), (es.zip (ents.map (·.born))).filter (fun e => g e.2) = es'.zip ((ents.filter fun e => g e.born).map (·.born)) ∧ es'.length = (ents.filter fun e => g e.born).length ∧
    ((∀ (i : Nat) k v, es[i]? = some (k, v) → ∃ e, ents[i]? = some e ∧ VR ι s w k e.key ∧ VR ι s w v e.val) → ∀ (i : Nat) k v, es'[i]? = some (k, v) → ∃ e, (ents.filter fun e => g e.born)[i]? = some e ∧ VR ι s w k e.key ∧ VR ι s w v e.val) := by
  induction ents generalizing es with
  | nil =>
    have : es = [] := List.length_eq_zero_iff.1 hl
    subst this
    exact ⟨[], rfl, rfl, fun h => h⟩
  | cons e ents ih =>
    cases es with
    | nil => simp at hl
    | cons x es =>
      obtain ⟨es', h1, h2, h3⟩ := ih (es := es) (by simpa using hl)
      have tl : (∀ (i : Nat) k v, (x :: es)[i]? = some (k, v) → ∃ e', (e :: ents)[i]? = some e' ∧ VR ι s w k e'.key ∧ VR ι s w v e'.val) → ∀ (i : Nat) k v, es[i]? = some (k, v) → ∃ e', ents[i]? = some e' ∧ VR ι s w k e'.key ∧ VR ι s w v e'.val := fun q i k v hi => by
        obtain ⟨e', q1, q2⟩ := q (i + 1) k v (by simpa using hi)
        exact ⟨e', by simpa using q1, q2⟩
      by_cases hg : g e.born = true
      · refine ⟨x :: es', ?_, ?_, fun q i k v hi => ?_⟩
        · simp only [List.map_cons, List.zip_cons_cons, List.filter_cons, hg, if_true, h1]
        · simp only [List.filter_cons, hg, if_true, List.length_cons, h2]
        · simp only [List.filter_cons, hg, if_true]
          cases i with
          | zero =>
            obtain ⟨e', q1, q2⟩ := q 0 k v (by simpa using hi)
            exact ⟨e', by simpa using q1, q2⟩
          | succ i =>
            obtain ⟨e', q1, q2⟩ := h3 (tl q) i k v (by simpa using hi)
            exact ⟨e', by simpa using q1, q2⟩
      · refine ⟨es', ?_, ?_, fun q i k v hi => ?_⟩
        · simp only [List.map_cons, List.zip_cons_cons, List.filter_cons, hg, h1]; simp
        · simp only [List.filter_cons, hg, h2]; simp
        · simp only [List.filter_cons, hg]
          exact h3 (tl q) i k v hi
theorem nextMap_sound {p : AV} {p' : Value} {ty : TypeId} (h : aNextMap p s κ = some r) (hp : VR ι s w p p') (hW : WR B w0 ι s w) : Done P call B w0 ι s w (Instr.next p' false ty >>= fun a => pure (.value a)) κ r := by
  unfold aNextMap at h
  split at h
  · rename_i l
    have hl0 : l < s.next := by cases hp; assumption
    have ho := hW.obj l hl0
    have over : VR ι s w (.tuple [.bool false]) (.tuple #[.bool false]) := VRs.tup (ys := [.bool false]) (.cons (.bool _) (.nil _ _ _))
    split at h
    · rename_i since seen last hg
      rw [hg] at ho
      obtain ⟨m', g1, g2, g3, g4⟩ := ho
      obtain ⟨hl, rfl⟩ := it_addr hW hp (by rw [hg]; rfl) g4
      cases g3
      refine .v0 hW h ?_ over
      simp [Instr.next, getObj, Sem.run, g1]
    · rename_i m since seen last hg
      rw [hg] at ho
      obtain ⟨m', g1, g2, g3, g4⟩ := ho
      obtain ⟨hl, rfl⟩ := it_addr hW hp (by rw [hg]; rfl) g4
      split at h
      · rename_i es st hgm
        split at h
        · cases h
        rename_i hno
        cases g3 with
        | map hlm hem ham =>
          obtain ⟨hr, ents, clock, h1, h2, h3, h4, hst⟩ := map_of hW hlm ham hgm
          subst hr
          have hg1 : (getObj (ι l).b).run P w = .ok (.mapIter (some (ι m).b) since seen.toArray last) w := by simp [getObj, Sem.run, g1]
          have hg2 : (getObj (ι m).b).run P w = .ok (.map ents clock) w := MapKept.run_getObj_map h1
          have hno2 : (!seen.toArray.isEmpty && !ents.isEmpty && ents.all fun e => decide (e.born ≥ last)) = false := by
            rw [Bool.eq_false_iff]
            intro q
            simp only [Bool.and_eq_true, Bool.not_eq_true'] at q
            refine hno ⟨fun z => ?_, fun z => ?_, ?_⟩
            · rw [z] at q; simp at q
            · rw [z] at h3
              have : ents.size = 0 := h3.symm
              have : ents = #[] := Array.eq_empty_of_size_eq_zero this
              rw [this] at q; simp at q
            · rw [hst]
              simp only [List.all_map]
              have := q.2
              rw [← Array.all_toList] at this
              simpa [Function.comp_def] using this
          obtain ⟨es', z1, z2, z3⟩ := zip_filter (ι := ι) (s := s) (w := w) (es := es) (ents := ents.toList) (fun b => !seen.contains b) (by simpa using h3)
          have z3 := z3 (by simpa using h4)
          have hcon : ∀ e : MapEntry, seen.toArray.contains e.born = seen.contains e.born := fun e => by simp
          have hfl : (ents.filter fun e => !seen.toArray.contains e.born).toList = ents.toList.filter fun e => !seen.contains e.born := by simp
          rw [hst] at h
          simp only [z1] at h
          generalize hL : (ents.toList.filter fun e => !seen.contains e.born) = L at h z2 z3 hfl
          have hLA : (ents.filter fun e => !seen.toArray.contains e.born) = L.toArray := by rw [← hfl]
          split at h
          · rename_i hz
            have hL0 : L = [] := by
              cases L with
              | nil => rfl
              | cons e L =>
                cases es' with
                | nil => simp at z2
                | cons x es' => simp at hz
            subst hL0
            refine .v0 hW h ?_ over
            simp only [Instr.next, Sem.run_bind, hg1, hg2, Result.andThen_ok, hno2, hLA]
            simp [choose, Sem.run, Question.forced]
          · rename_i k v b hz
            obtain ⟨e, hL1, hx⟩ : ∃ e, L = [e] ∧ es' = [(k, v)] ∧ e.born = b := by
              cases L with
              | nil => simp at hz
              | cons e L =>
                cases es' with
                | nil => simp at hz
                | cons x es' =>
                  simp only [List.map_cons, List.zip_cons_cons, List.cons.injEq, Prod.mk.injEq] at hz
                  obtain ⟨⟨q1, q2⟩, q3⟩ := hz
                  cases L with
                  | nil =>
                    cases es' with
                    | nil => exact ⟨e, rfl, by rw [q1], q2⟩
                    | cons y es' => simp at z2
                  | cons e2 L =>
                    cases es' with
                    | nil => simp at z2
                    | cons y es' => simp at q3
            subst hL1
            obtain ⟨hx1, hx2⟩ := hx
            obtain ⟨e', q1, q2, q3⟩ := z3 0 k v (by rw [hx1]; rfl)
            simp only [List.getElem?_cons_zero, Option.some.injEq] at q1
            subst q1
            split at h
            · rename_i hlt
              subst hx2
              obtain ⟨h5, h6⟩ := obj_set hW (o' := .miter (.map m) since (seen ++ [e.born]) clock) (O' := .mapIter (some (ι m).b) since (seen ++ [e.born]).toArray clock) hl (by rw [hg]; rfl) (by rw [hg]; rfl) rfl g1 g2 (by simp) (by simp) (fun k => ⟨some (ι m).b, (MapKept.heap_set g1).1, g2, (VR.map hlm hem ham).later k, g4⟩)
              refine .v h (v' := .tuple #[.bool true, e.key, e.val]) ?_ (VRs.tup (ys := [.bool true, e.key, e.val]) (.cons (.bool _) (.cons (q2.later h6) (.cons (q3.later h6) (.nil _ _ _))))) h5 h6
              simp only [Instr.next, Sem.run_bind, hg1, hg2, Result.andThen_ok, hno2, hLA]
              have hnl : ¬ since ≤ e.born := by omega
              simp [choose, Sem.run, Question.forced, hlt, hnl, setObj, g1]
            · cases h
          · cases h
      · cases h
    · cases h
  · cases h
theorem entry_sound {p : AV} {p' : Value} {f : AV → Option α} (h : aEntry p s f = some r) (hp : VR ι s w p p') (hW : WR B w0 ι s w) : ∃ v v', f v = some r ∧ (Instr.entry p').run P w = .ok v' w ∧ VR ι s w v v' := by
  unfold aEntry at h
  split at h
  · rename_i l
    have hl0 : l < s.next := by cases hp; assumption
    have ho := hW.obj l hl0
    split at h
    · rename_i m since seen last hg
      rw [hg] at ho
      obtain ⟨m', g1, g2, g3, g4⟩ := ho
      obtain ⟨hl, rfl⟩ := it_addr hW hp (by rw [hg]; rfl) g4
      split at h
      · rename_i es st b hgm hlast
        split at h
        rotate_left
        · cases h
        rename_i hst2
        split at h
        · rename_i k v b' hfind
          cases g3 with
          | map hlm hem ham =>
            obtain ⟨hr, ents, clock, h1, h2, h3, h4, hst⟩ := map_of hW hlm ham hgm
            subst hr
            rw [hst] at hfind hst2
            obtain ⟨e, e1, e2, e3⟩ : ∃ e, ents.find? (fun e => e.born == b) = some e ∧ VR ι s w k e.key ∧ VR ι s w v e.val := by
              rw [← Array.find?_toList]
              have hlen : es.length = ents.toList.length := by simpa using h3
              have h4' : ∀ (i : Nat) k v, es[i]? = some (k, v) → ∃ e, ents.toList[i]? = some e ∧ VR ι s w k e.key ∧ VR ι s w v e.val := by simpa using h4
              clear hgm hst h1 h3 h4 h hg hlast
              simp only at hfind
              generalize ents.toList = L at hfind hlen h4'
              induction L generalizing es with
              | nil => simp at hfind
              | cons e L ih =>
                cases es with
                | nil => simp at hlen
                | cons x es =>
                  obtain ⟨xk, xv⟩ := x
                  simp only [List.map_cons, List.zip_cons_cons, List.find?_cons] at hfind ⊢
                  by_cases hb : (e.born == b) = true
                  · rw [hb] at hfind ⊢
                    simp only [Option.some.injEq, Prod.mk.injEq] at hfind
                    obtain ⟨⟨rfl, rfl⟩, _⟩ := hfind
                    obtain ⟨e', q1, q2, q3⟩ := h4' 0 _ _ rfl
                    simp only [List.getElem?_cons_zero, Option.some.injEq] at q1
                    subst q1
                    exact ⟨e, rfl, q2, q3⟩
                  · simp only [hb] at hfind ⊢
                    refine ih es hfind (by simpa using hlen) fun i k v hi => ?_
                    obtain ⟨e', q1, q2⟩ := h4' (i + 1) k v (by simpa using hi)
                    exact ⟨e', by simpa only [List.getElem?_cons_succ] using q1, q2⟩
            refine ⟨_, .tuple #[e.key, e.val], h, ?_, VRs.tup (ys := [e.key, e.val]) (.cons e2 (.cons e3 (.nil _ _ _)))⟩
            have hbk : seen.toArray.back? = some b := by rw [List.back?_toArray]; exact hlast
            have hst3 : clock = last := hst2
            subst hst3
            simp only [Instr.entry, Sem.run_bind, getObj, Sem.run, g1, hbk, MapKept.run_getObj_map h1, h1, Result.andThen_ok, e1]
            simp [Sem.run_pure]
        · cases h
      · cases h
    · cases h
  · cases h
theorem meth_ahead (hM : MethFine P) {n : String} {t : Nat} (h : methT n t = true) (v' : Value) : (nilAhead (P.types.size + Made.depth) t v' n).run P w = .ok (some false) w := by
  unfold methT at h
  obtain ⟨p, hp, hq⟩ := List.any_eq_true.1 h
  simp only [Bool.and_eq_true, beq_iff_eq, Nat.beq_eq] at hq
  have hk := List.all_eq_true.1 hM p hp
  rw [hq.1, hq.2] at hk
  unfold methOkB at hk
  split at hk
  · rename_i m d hm hd
    obtain ⟨i, hi, hf⟩ := Option.bind_eq_some_iff.1 hm
    have hti : (typeInfo t).run P w = .ok i w := by simp [typeInfo, program, Sem.run, hi]
    simp only [Bool.and_eq_true] at hk
    have hpl : m.path.toList = [] := by simpa using hk.1
    have hk2 := hk.2
    show (nilAhead (P.types.size + 99 + 1) t v' n).run P w = _
    unfold nilAhead
    simp only [Sem.run_bind, hti, Result.andThen_ok, hf, hpl, followBlind, Sem.run_pure]
    split at hk2
    · rename_i f d' hfn
      simp [hfn]
    · cases hk2
    · rename_i d2 q2 q3 f hfn hd2
      simp only [hfn, Sem.run_bind, run_underlying hd, Result.andThen_ok]
      cases d2 <;> first | (exact (hd2 _ rfl).elim) | simp
    · cases hk2
  · cases hk
theorem invoke_sound {x : AV} {x' : Value} {name : String} {args : List AV} {args' : Array Value} (hB : Bodied P call) (h : aInvoke P call x name args s κ = some r) (hx : VR ι s w x x') (ha : VRs ι s w args args'.toList) : Done P call B w0 ι s w (callMethod x' name args') κ r := by
  unfold aInvoke at h
  split at h
  · rename_i t v
    cases hx with
    | iface hv =>
      rename_i v'
      split at h
      · rename_i m d hm hd
        obtain ⟨i, hi, hf⟩ := Option.bind_eq_some_iff.1 hm
        have hti : (typeInfo t).run P w = .ok i w := by simp [typeInfo, program, Sem.run, hi]
        have hmeth : ∀ (f : FuncId) (b : Bool), m.func = some (f, b) → m.path.isEmpty = true → (receiverAt t (.val v') b (if m.path.isEmpty then some ((name.splitOn ".").getLastD name) else none)).run P w = .ok v' w → (method (P.types.size + Made.depth) t v' name).run P w = .ok (f, v') w := by
          intro f b hfb hpe hrc
          show (method (P.types.size + 99 + 1) t v' name).run P w = _
          have hpl : m.path.toList = [] := by simpa using hpe
          unfold method
          simp only [Sem.run_bind, hti, Result.andThen_ok, hf, hpl, follow, Sem.run_pure, hfb, hrc]
        have fin : ∀ f : FuncId, (method (P.types.size + Made.depth) t v' name).run P w = .ok (f, v') w → (call f (v :: args) s).bind (fun r => κ r.1 r.2) = some r → Done P call B w0 ι s w (callMethod (.iface t v') name args') κ r := by
          intro f hmf hc0
          cases hc : call f (v :: args) s with
          | none => rw [hc] at hc0; cases hc0
          | some q =>
            rw [hc] at hc0
            obtain ⟨fn, k1, k2, k3⟩ := hB.2 _ _ _ _ hc
            refine .inr ⟨f, v :: args, #[v'] ++ args', q.1, q.2, ?_, ?_, hc, hc0⟩
            · have k2' : ¬ fn.name = "runtime.NumGoroutine" := by simpa using k2
              have k3' : ¬ fn.body = none := by intro e; rw [e] at k3; cases k3
              simp only [callMethod, Sem.run_bind, program, Sem.run, hmf, Result.andThen_ok]
              simp [callFunc, k1, k2', k3', program, Sem.run]
            · simpa using VRs.cons hv ha
        split at h
        · rename_i f el hfn
          split at h
          · rename_i hpe
            refine fin f (hmeth f true hfn hpe ?_) h
            simp [receiverAt, run_underlying hd, Place.get]
          · cases h
        · cases h
        · rename_i d2 q2 q3 f hfn hd2
          split at h
          · rename_i hpe
            refine fin f (hmeth f false hfn hpe ?_) h
            unfold receiverAt
            simp only [Sem.run_bind, run_underlying hd, Result.andThen_ok]
            cases d2 <;> first | (exact (hd2 _ rfl).elim) | (simp [Place.get])
          · cases h
        · cases h
      · cases h
  · cases h
theorem assert_sound {x : AV} {x' : Value} {xt t : TypeId} {ok : Bool} {f : AV → Option α} (h : aAssert P t ok x f = some r) (hx : VR ι s w x x') : ∃ v v', f v = some r ∧ (Instr.typeAssert x' xt t ok).run P w = .ok v' w ∧ VR ι s w v v' := by
  unfold aAssert at h
  split at h
  · cases h
  · rename_i d z hni hd hz
    obtain ⟨z', hz1, hz2⟩ := zero_sound (ι := ι) (s := s) hz w
    have two : ∀ (v : AV) (v' : Value) (b : Bool), VR ι s w v v' → VR ι s w (.tuple [v, .bool b]) (.tuple #[v', .bool b]) := fun v v' b hv => VRs.tup (ys := [v', .bool b]) (.cons hv (.cons (.bool b) (.nil _ _ _)))
    have hdi : ∀ ms, d ≠ .interface ms := fun ms q => hni ms q
    split at h
    · rename_i t' v
      cases hx with
      | iface hv =>
        rename_i v'
        split at h
        · rename_i ht
          subst ht
          refine ⟨_, (if ok then .tuple #[v', .bool true] else v'), h, ?_, ?_⟩
          · cases d <;> first | (exact absurd rfl (hdi _)) | simp [Instr.typeAssert, run_underlying hd]
          · cases ok
            · exact hv
            · exact two _ _ _ hv
        · rename_i ht
          cases ok
          · cases h
          · refine ⟨_, .tuple #[z', .bool false], h, ?_, two _ _ _ hz2⟩
            cases d <;> first | (exact absurd rfl (hdi _)) | simp [Instr.typeAssert, run_underlying hd, ht, hz1]
    · cases hx
      cases ok
      · cases h
      · refine ⟨_, .tuple #[z', .bool false], h, ?_, two _ _ _ hz2⟩
        cases d <;> first | (exact absurd rfl (hdi _)) | simp [Instr.typeAssert, run_underlying hd, hz1]
    · cases h
  · cases h
end
end Go.Proofs.YtjbgdpfkmcibbaaGreatDoor.Sim
