/- The abstract machine is sound: new rows, builtins, calls; each operation. Plain lemmas. No condition. -/
import Derived.Test.YtmaidlndikcgkaaSimJ
import Derived.Laws.Tables
namespace Go.Proofs.Ytmaidlndikcgkaa.Sim
open Go.RowKit (Below)
set_option linter.unusedSimpArgs false
section
variable {P : Program} {call : CallA} {B : Nat} {w0 : World} {ι : Nat → Loc} {s : Store} {w : World} {α : Type} {r : α} {κ : AV → Store → Option α}

theorem alloc_sound {t : TypeId} {zs : List AV} (hz : zerosOf P t = some zs) (h : aNew zs s κ = some r) (hW : WR B w0 ι s w) : Done P call B w0 ι s w (Instr.alloc t true (.tuple #[]) >>= fun a => pure (.value a)) κ r := by
  obtain ⟨i, z, hi, hzz, rfl, hone⟩ := zeros_of hz
  rcases new_sound (P := P) (call := call) t (vs := z.cells) h (vrs_ofVal ι s w z.cells.toList) hone hW with ⟨v, s', nx, v', w', ι', h1, h2, h3⟩ | ⟨g, args, args', v, s', h1, _⟩
  · refine .inl ⟨v, s', nx, v', w', ι', h1, ?_, h3⟩
    rw [Sem.run_bind, Instr.alloc, Sem.run_bind, run_zero hi hzz]
    rw [Sem.run_bind] at h2
    exact h2
  · simp [newRow] at h1

theorem box_sound {t : TypeId} {x : AV} {x' : Value} (h : (aCells x fun cs => aNew cs s κ) = some r) (hx : VR ι s w x x') (hW : WR B w0 ι s w) : Done P call B w0 ι s w (Instr.box t x' >>= fun a => pure (.value a)) κ r := by
  obtain ⟨cs, hk, hcs, hone⟩ := aCells_sound h hx
  exact new_sound (P := P) (call := call) t (vs := x'.cells) hk hcs hone hW

theorem mapM_sz (P : Program) (fs : List Field) : (fs.mapM fun f => (szOf P f.type).map fun n => (f.offset, n)) = fs.mapM (fun f => (P.info? f.type).map fun i => (f.offset, i.size)) := by
  congr 1
  funext f
  simp [szOf, Function.comp_def]

theorem builds_sound {t : TypeId} {zs : List AV} {pl : Nat → Option (Nat × Nat)} {ρ : Operand → AV} {ρ' : Operand → Value} {parts : Array (Nat × Operand)} {ps : List (Nat × Nat × AV)} {f : List AV → Option α} (hz : zerosOf P t = some zs) (hpl : placeOf P t = some pl) (hps : partsOf pl ρ parts.toList = some ps)
    (h : aBuild ps zs f = some r) (hρ : ∀ x, VR ι s w (ρ x) (ρ' x)) : ∃ cs c, f cs = some r ∧ (Instr.build t (parts.map fun (i, x) => (i, ρ' x))).run P w = .ok (.agg c) w ∧ VRs ι s w cs c.toList ∧ ∀ y ∈ c.toList, y.oneCell' = true := by
  obtain ⟨i, z, hi, hzz, rfl, hone⟩ := zeros_of hz
  obtain ⟨hl, hq⟩ := parts_of hρ hps
  obtain ⟨cs, c, h1, h2, h3, h4⟩ := build_sound (pl := pl) h (vrs_ofVal ι s w z.cells.toList) hone hl hq
  refine ⟨cs, c, h1, ?_, h3, h4⟩
  apply run_build
  have hto : (parts.map fun (i, x) => (i, ρ' x)).toList = parts.toList.map fun p => (p.1, ρ' p.2) := by simp
  rw [hto]
  unfold placeOf at hpl
  unfold Program.built
  split at hpl
  · rename_i fs hu
    obtain ⟨l, hl, rfl⟩ := Option.map_eq_some_iff.1 hpl
    rw [mapM_sz] at hl
    simp only [hi, hu, hzz, hl]
    simpa using h2
  · rename_i n e hu
    obtain ⟨n', hn, rfl⟩ := Option.map_eq_some_iff.1 hpl
    obtain ⟨ie, hie, rfl⟩ := size_of hn
    simp only [hi, hu, hzz, hie]
    exact h2
  · cases hpl

theorem buildSlice_core {t e : TypeId} {n c : Nat} {zs : List AV} {ρ : Operand → AV} {ρ' : Operand → Value} {parts : Array (Nat × Operand)} {f : List AV → Option α} (hu : P.underlying t = some (.slice e)) (hz : zerosOf P e = some zs) (hc : szOf P e = some c) (hn : n * c ≤ 16777216 ∧ zs.length = c)
    (h : aBuild (parts.toList.map fun p => (p.1 * c, c, ρ p.2)) (List.replicate n zs).flatten f = some r) (hρ : ∀ x, VR ι s w (ρ x) (ρ' x)) :
    ∃ cs cc, f cs = some r ∧ cs.length = n * c ∧ cc.size = n * c ∧ VRs ι s w cs cc.toList ∧ (∀ y ∈ cc.toList, y.oneCell' = true) ∧ (Instr.buildSlice t n (parts.map fun (i, x) => (i, ρ' x))).run P w = .ok (.slice (some ⟨w.heap.size, 0, none⟩) n n) (w.alloc (.cells cc e)) := by
  obtain ⟨i, z, hi, hzz, rfl, hone⟩ := zeros_of hz
  have hzl : z.cells.toList.length = c := by simpa using hn.2
  have hbase : (madeCells (if n * c = 0 then #[] else z.cells) (n * c)).toList = (List.replicate n z.cells.toList).flatten := by
    by_cases h0 : n * c = 0
    · rw [if_pos h0, h0]
      have : (List.replicate n z.cells.toList).flatten.length = 0 := by simp at hzl; simp [hzl, h0]
      rw [List.length_eq_zero_iff.1 this]
      simp [madeCells]
    · rw [if_neg h0]
      have hp : 0 < z.cells.toList.length := by rw [hzl]; exact Nat.pos_of_ne_zero (fun q => h0 (by rw [q]; simp))
      have := madeCells_take (zs := z.cells.toList) (n := n) (m := n) (Nat.le_refl _) hp
      rw [hzl] at this
      rw [← this, List.take_of_length_le (by simp [madeCells])]
  have hq : ∀ (j : Nat) p q, (parts.toList.map fun p => (p.1 * c, c, ρ p.2))[j]? = some p → (parts.toList.map fun p => (p.1, ρ' p.2))[j]? = some q → (fun i => some (i * c, c)) q.1 = some (p.1, p.2.1) ∧ VR ι s w p.2.2 q.2 := by
    intro j p q hp hq
    rw [List.getElem?_map] at hp hq
    cases hj : parts.toList[j]? with
    | none => rw [hj] at hp; cases hp
    | some x =>
      rw [hj] at hp hq
      simp only [Option.map_some, Option.some.injEq] at hp hq
      subst hp; subst hq
      exact ⟨rfl, hρ _⟩
  obtain ⟨cs, cc, h1, h2, h3, h4⟩ := build_sound (pl := fun i => some (i * c, c)) (c := madeCells (if n * c = 0 then #[] else z.cells) (n * c)) h (by rw [hbase]; exact (vrs_ofVal ι s w z.cells.toList).replicate n) (by
    rw [hbase]
    intro y hy
    obtain ⟨l, hl1, hl2⟩ := List.mem_flatten.1 hy
    rw [(List.mem_replicate.1 hl1).2] at hl2
    exact hone y hl2) (qs := parts.toList.map fun p => (p.1, ρ' p.2)) (by simp) hq
  have hcs : cs.length = n * c := by
    have hb : ∀ (ps : List (Nat × Nat × AV)) (cs0 : List AV) (f : List AV → Option α), aBuild ps cs0 f = some r → ∃ cs1, f cs1 = some r ∧ cs1.length = cs0.length := by
      intro ps
      induction ps with
      | nil => intro cs0 f hf; exact ⟨cs0, hf, rfl⟩
      | cons p ps ih =>
        intro cs0 f hf
        obtain ⟨o, sz, x⟩ := p
        simp only [aBuild] at hf
        have : ∃ vs, (if vs.length = sz ∧ o + sz ≤ cs0.length then aBuild ps (putAll cs0 o vs) f else none) = some r := by
          unfold aCells at hf
          split at hf
          · exact ⟨_, hf⟩
          · cases hf
          · cases hf
          · exact ⟨_, hf⟩
        obtain ⟨vs, hv⟩ := this
        split at hv
        · obtain ⟨cs1, k1, k2⟩ := ih _ _ hv
          exact ⟨cs1, k1, by rw [k2, putAll_length]⟩
        · cases hv
    have hfill : ∀ (qs : List (Nat × Value)) (pl : Nat → Option (Nat × Nat)) (c0 c1 : Array Value), Instr.fill pl c0 qs = some c1 → c1.size = c0.size := by
      intro qs
      induction qs with
      | nil => intro pl c0 c1 hf; simp only [Instr.fill] at hf; rw [Option.some.inj hf]
      | cons q qs ih =>
        intro pl c0 c1 hf
        obtain ⟨i, v⟩ := q
        simp only [Instr.fill] at hf
        split at hf
        · cases hf
        · split at hf
          · cases hf
          · rw [ih _ _ _ hf]
            rename_i hz1
            rw [← Array.foldl_toList]
            generalize v.cells.zipIdx.toList = l
            clear hf hz1
            induction l generalizing c0 with
            | nil => rfl
            | cons a l ih2 => rw [List.foldl_cons, ih2]; simp
    have := hfill _ _ _ _ h2
    have h3l := h3.1
    rw [size_madeCells] at this
    simp at h3l
    omega
  have hcc : cc.size = n * c := by have := h3.1; simp at this; omega
  refine ⟨cs, cc, h1, hcs, hcc, h3, h4, ?_⟩
  have hto : (parts.map fun (i, x) => (i, ρ' x)).toList = parts.toList.map fun p => (p.1, ρ' p.2) := by simp
  have hlim : ¬ n * c > 2 ^ 24 := by omega
  by_cases h0 : n * c = 0
  · rw [if_pos h0] at h2
    simp only [madeCells] at h2
    simp only [Instr.buildSlice, Sem.run_bind, run_underlying hu, Result.andThen_ok, run_size hc, Sem.run_ite, if_neg hlim, Sem.run_pure, if_pos h0, hto, h2, newRow, run_newObj]
    rfl
  · rw [if_neg h0] at h2
    simp only [madeCells] at h2
    simp only [Instr.buildSlice, Sem.run_bind, run_underlying hu, Result.andThen_ok, run_size hc, Sem.run_ite, if_neg hlim, Sem.run_pure, if_neg h0, run_zero hi hzz, hto, h2, newRow, run_newObj]
    rfl

theorem buildSlice_sound {t e : TypeId} {n c : Nat} {zs : List AV} {ρ : Operand → AV} {ρ' : Operand → Value} {parts : Array (Nat × Operand)} (hu : P.underlying t = some (.slice e)) (hz : zerosOf P e = some zs) (hc : szOf P e = some c) (hn : n * c ≤ 16777216 ∧ zs.length = c)
    (h : (aBuild (parts.toList.map fun p => (p.1 * c, c, ρ p.2)) (List.replicate n zs).flatten fun cs => κ (.sl s.next 0 n c (n * c)) (s.push (.cells cs false))) = some r) (hρ : ∀ x, VR ι s w (ρ x) (ρ' x)) (hW : WR B w0 ι s w) :
    Done P call B w0 ι s w (Instr.buildSlice t n (parts.map fun (i, x) => (i, ρ' x)) >>= fun a => pure (.value a)) κ r := by
  obtain ⟨cs, cc, h1, hcs, hcc, h3, h4, hrun⟩ := buildSlice_core (P := P) hu hz hc hn h hρ
  obtain ⟨ι', h5, h6, h7⟩ := push_cells hW (cs := cs) (c := cc) e (0, 0) false (w' := w.alloc (.cells cc e)) rfl rfl rfl rfl (by rw [List.take_of_length_le (by rw [h3.1]; exact Nat.le_refl _)]; exact h3) (by rw [List.take_of_length_le (by rw [h3.1]; exact Nat.le_refl _)]; exact h4) (fun _ => rfl)
  exact .v h1 hrun (new_sl h7 (c := cc) rfl hcs.symm (Nat.le_refl _) (by omega) (by omega)) h5 h6

theorem len_sound {x : AV} {x' : Value} {f : AV → Option α} {ts : Array TypeId} {xs : Array Value} {ty t e : TypeId} (hts : ts[0]? = some t) (hx0 : xs[0]? = some x') (hu : P.underlying t = some (.slice e)) (h : aLen x f = some r) (hx : VR ι s w x x') :
    ∃ v v', f v = some r ∧ (Builtin.len_ ts ty xs).run P w = .ok v' w ∧ VR ι s w v v' := by
  unfold aLen at h
  split at h
  · cases hx; exact ⟨_, _, h, by simp [Builtin.len_, hts, hx0, run_underlying hu, goInt], .int _ _⟩
  · cases hx; exact ⟨_, _, h, by simp [Builtin.len_, hts, hx0, run_underlying hu, goInt], .int _ _⟩
  · cases h

theorem lenStr_sound {x : AV} {x' : Value} {f : AV → Option α} {ts : Array TypeId} {xs : Array Value} {ty t : TypeId} (hts : ts[0]? = some t) (hx0 : xs[0]? = some x') (hu : P.underlying t = some .string) (h : aLenStr x f = some r) (hx : VR ι s w x x') :
    ∃ v v', f v = some r ∧ (Builtin.len_ ts ty xs).run P w = .ok v' w ∧ VR ι s w v v' := by
  unfold aLenStr at h
  split at h
  · cases hx; exact ⟨_, _, h, by simp [Builtin.len_, hts, hx0, run_underlying hu, goInt], .int _ _⟩
  · cases h

theorem lenMap_sound {x : AV} {x' : Value} {f : AV → Option α} {ts : Array TypeId} {xs : Array Value} {ty t kt e : TypeId} (hts : ts[0]? = some t) (hx0 : xs[0]? = some x') (hu : P.underlying t = some (.map kt e)) (h : aLenMap x s f = some r) (hx : VR ι s w x x') (hW : WR B w0 ι s w) :
    ∃ v v', f v = some r ∧ (Builtin.len_ ts ty xs).run P w = .ok v' w ∧ VR ι s w v v' := by
  unfold aLenMap at h
  split at h
  · cases hx; exact ⟨_, _, h, by simp [Builtin.len_, hts, hx0, run_underlying hu, goInt], .int _ _⟩
  · split at h
    · rename_i es hg
      cases hx with
      | map hl he ha =>
        obtain ⟨hr, ents, clock, h1, h2, h3, h4⟩ := map_of hW hl ha hg
        refine ⟨_, .int .i64 ents.size, h, ?_, ?_⟩
        · simp [Builtin.len_, hts, hx0, run_underlying hu, goInt, MapKept.run_getObj_map h1]
        · rw [h3]; exact .int _ _
    · cases h
  · cases h

theorem maxL_sound : ∀ {xs : List AV} {x : AV} {x' : Value} {xs' : List Value} {f : AV → Option α}, aMaxL x xs f = some r → VR ι s w x x' → VRs ι s w xs xs' → ∃ v v', f v = some r ∧ (xs'.foldlM Builtin.max2 x').run P w = .ok v' w ∧ VR ι s w v v'
  | [], x, x', xs', f, h, hx, hxs => by
    have : xs' = [] := List.length_eq_zero_iff.1 hxs.1.symm
    subst this
    exact ⟨_, _, h, rfl, hx⟩
  | y :: xs, x, x', [], f, h, hx, hxs => by have := hxs.1; simp at this
  | y :: xs, x, x', y' :: xs', f, h, hx, hxs => by
    simp only [aMaxL, aMax2] at h
    split at h
    · have hy := hxs.2 0 _ _ rfl rfl
      cases hx; cases hy
      obtain ⟨v, v', h1, h2, h3⟩ := maxL_sound h (.int _ _) (by simpa using hxs.drop 1)
      exact ⟨v, v', h1, by rw [List.foldlM_cons, Sem.run_bind]; exact h2, h3⟩
    · cases h
theorem minL_sound : ∀ {xs : List AV} {x : AV} {x' : Value} {xs' : List Value} {f : AV → Option α}, aMinL x xs f = some r → VR ι s w x x' → VRs ι s w xs xs' → ∃ v v', f v = some r ∧ (xs'.foldlM Builtin.min2 x').run P w = .ok v' w ∧ VR ι s w v v'
  | [], x, x', xs', f, h, hx, hxs => by
    have : xs' = [] := List.length_eq_zero_iff.1 hxs.1.symm
    subst this
    exact ⟨_, _, h, rfl, hx⟩
  | y :: xs, x, x', [], f, h, hx, hxs => by have := hxs.1; simp at this
  | y :: xs, x, x', y' :: xs', f, h, hx, hxs => by
    simp only [aMinL, aMin2] at h
    split at h
    · have hy := hxs.2 0 _ _ rfl rfl
      cases hx; cases hy
      obtain ⟨v, v', h1, h2, h3⟩ := minL_sound h (.int _ _) (by simpa using hxs.drop 1)
      exact ⟨v, v', h1, by rw [List.foldlM_cons, Sem.run_bind]; exact h2, h3⟩
    · cases h

/-- Calls that answer are calls of functions with bodies. -/
def Bodied (P : Program) (call : CallA) : Prop := ∀ g args s q, call g args s = some q → ∃ fn, P.funcs[g]? = some fn ∧ (fn.name == "runtime.NumGoroutine") = false ∧ fn.body.isNone = false

theorem call_sound {f : AV} {f' : Value} {args : List AV} {args' : Array Value} (hB : Bodied P call) (h : aCall call f args s κ = some r) (hf : VR ι s w f f') (ha : VRs ι s w args args'.toList) :
    Done P call B w0 ι s w (Deferred.ofValue f' args' >>= fun d => invoke d.target d.args) κ r := by
  unfold aCall at h
  split at h
  · rename_i g first cap
    cases hf with
    | func h1 h2 h3 h4 =>
      rename_i first' cap'
      cases hc : call g (first ++ args ++ cap) s with
      | none => rw [hc] at h; cases h
      | some q =>
        rw [hc] at h
        obtain ⟨fn, k1, k2, k3⟩ := hB _ _ _ _ hc
        refine .inr ⟨g, first ++ args ++ cap, first' ++ args' ++ cap', q.1, q.2, ?_, ?_, hc, h⟩
        · have k2' : ¬ fn.name = "runtime.NumGoroutine" := by simpa using k2
          have k3' : ¬ fn.body = none := by intro e; rw [e] at k3; cases k3
          simp [Deferred.ofValue, invoke, callFunc, k1, k2', k3']
        · have e1 : VRs ι s w first first'.toList := ⟨by simpa using h1, fun i x y hx hy => h2 i x y hx (by simpa using hy)⟩
          have e2 : VRs ι s w cap cap'.toList := ⟨by simpa using h3, fun i x y hx hy => h4 i x y hx (by simpa using hy)⟩
          have := (e1.append ha).append e2
          simpa using this
  · cases h
end
end Go.Proofs.Ytmaidlndikcgkaa.Sim
