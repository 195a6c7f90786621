/- The abstract machine is sound: cuts, indexes, conversions. Plain lemmas. No condition. -/
import Derived.Test.YtjbgdpfkmcibbaaGreatDoorSimH
import Derived.Laws.IdiomStrings
import Derived.Laws.MakeOwn
namespace Go.Proofs.YtjbgdpfkmcibbaaGreatDoor.Sim
open Go.RowKit (Below)
set_option linter.unusedSimpArgs false
section
variable {P : Program} {call : CallA} {B : Nat} {w0 : World} {ι : Nat → Loc} {s : Store} {w : World} {α : Type} {r : α} {κ : AV → Store → Option α}

theorem un_sound {op : UnOp} {x : AV} {x' : Value} {f : AV → Option α} (h : aUn op x f = some r) (hx : VR ι s w x x') : ∃ v v', f v = some r ∧ (Op.unary op x').run P w = .ok v' w ∧ VR ι s w v v' := by
  unfold aUn at h
  split at h
  · cases hx; exact ⟨_, _, h, rfl, .int _ _⟩
  · cases hx; exact ⟨_, _, h, rfl, .int _ _⟩
  · cases hx; exact ⟨_, _, h, rfl, .bool _⟩
  · cases h

theorem fieldAddr_sound {t : TypeId} {fs : Array Field} {i n : Nat} {fl : Field} {x : AV} {x' : Value} {f : AV → Option α} (hu : P.underlying t = some (.struct fs)) (hf : fs[i]? = some fl) (hn : szOf P fl.type = some n) (h0 : 0 < n) (h : aFieldAddr fl.offset x f = some r) (hx : VR ι s w x x') :
    ∃ v v', f v = some r ∧ (Instr.fieldAt t x' i).run P w = .ok v' w ∧ VR ι s w v v' := by
  cases x with
  | ptr l off ep =>
    cases hx with
    | ptr hl hle ha =>
      rename_i a
      refine ⟨_, .pointer (some (a.add fl.offset)), h, ?_, .ptr hl hle (fun e => ?_)⟩
      · simp only [Instr.fieldAt, Sem.run_bind, run_underlying hu, Result.andThen_ok, hf, Instr.sureAddr, Sem.run_pure, fieldPlace, run_size hn, Sem.run_ite, if_neg (show ¬ n = 0 by omega)]
      · obtain ⟨h1, h2⟩ := ha e
        exact ⟨by omega, by rw [h2, add_mk]; congr 1; omega⟩
  | _ => simp [aFieldAddr] at h

theorem part_one {t : TypeId} {off : Nat} {vs : List AV} {vs' : Array Value} {f : AV → Option α} (ha : aggOf P t = some false) (h : (match vs[off]? with | some v => f v | Option.none => none) = some r) (hl : vs.length = vs'.size) (hv : ∀ (i : Nat) x y, vs[i]? = some x → vs'[i]? = some y → VR ι s w x y) :
    ∃ v v', f v = some r ∧ (part t vs' off).run P w = .ok v' w ∧ VR ι s w v v' := by
  split at h
  · rename_i v hv0
    have hj := (List.getElem?_eq_some_iff.1 hv0).1
    have h2 : vs'[off]? = some (vs'[off]'(by omega)) := Array.getElem?_eq_getElem (by omega)
    refine ⟨v, _, h, ?_, hv off v _ hv0 h2⟩
    simp [part, run_agg ha, h2]
  · cases h

theorem field_sound {t : TypeId} {fs : Array Field} {i : Nat} {fl : Field} {x : AV} {x' : Value} {f : AV → Option α} (hu : P.underlying t = some (.struct fs)) (hf : fs[i]? = some fl)
    (h : (match aggOf P fl.type, szOf P fl.type with | some true, some n => aFieldN fl.offset n x f | some false, _ => aField1 fl.offset x f | _, _ => none) = some r) (hx : VR ι s w x x') :
    ∃ v v', f v = some r ∧ (Instr.field t x' i).run P w = .ok v' w ∧ VR ι s w v v' := by
  split at h
  · rename_i n hag hn
    cases x with
    | agg vs =>
      cases hx with
      | agg h1 h2 h3 =>
        rename_i vs'
        have hvs : VRs ι s w vs vs'.toList := ⟨by simpa using h1, fun i x y hx hy => h2 i x y hx (by simpa using hy)⟩
        have := (hvs.drop fl.offset).take n
        refine ⟨_, .agg (vs'.extract fl.offset (fl.offset + n)), h, ?_, ?_⟩
        · simp [Instr.field, run_underlying hu, hf, asAgg, part, run_agg hag, run_size hn]
        · have e : (vs'.extract fl.offset (fl.offset + n)) = ((vs'.toList.drop fl.offset).take n).toArray := by
            apply Array.ext'
            simp [List.extract_eq_take_drop]
          rw [e]
          exact this.agg (fun y hy => h3 y (List.mem_of_mem_drop (List.mem_of_mem_take hy)))
    | _ => simp [aFieldN] at h
  · rename_i hag
    cases x with
    | agg vs =>
      cases hx with
      | agg h1 h2 h3 =>
        obtain ⟨v, v', k1, k2, k3⟩ := part_one hag h h1 h2
        exact ⟨v, v', k1, by simp [Instr.field, run_underlying hu, hf, asAgg, k2], k3⟩
    | _ => simp [aField1] at h
  · cases h

theorem indexAgg_sound {t e : TypeId} {len c : Nat} {b : Bool} {x i : AV} {x' i' : Value} {f : AV → Option α} (hu : P.underlying t = some (.array len e)) (hb : aggOf P e = some b) (hc : szOf P e = some c) (h : aIndexAgg b len c x i f = some r) (hx : VR ι s w x x') (hi : VR ι s w i i') :
    ∃ v v', f v = some r ∧ (Instr.index t x' i').run P w = .ok v' w ∧ VR ι s w v v' := by
  unfold aIndexAgg at h
  split at h
  · rename_i k j
    cases hi
    split at h
    · rename_i h0
      split at h
      · rename_i h1
        cases x with
        | agg vs =>
          cases hx with
          | agg g1 g2 g3 =>
            rename_i vs'
            split at h
            · rename_i hbt
              subst hbt
              have hvs : VRs ι s w vs vs'.toList := ⟨by simpa using g1, fun i x y hx hy => g2 i x y hx (by simpa using hy)⟩
              have := (hvs.drop (j.toNat * c)).take c
              refine ⟨_, .agg (vs'.extract (j.toNat * c) (j.toNat * c + c)), h, ?_, ?_⟩
              · simp [Instr.index, asIntOf, run_underlying hu, h0, h1, part, run_agg hb, run_size hc]
              · have e : (vs'.extract (j.toNat * c) (j.toNat * c + c)) = ((vs'.toList.drop (j.toNat * c)).take c).toArray := by
                  apply Array.ext'
                  simp [List.extract_eq_take_drop]
                rw [e]
                exact this.agg (fun y hy => g3 y (List.mem_of_mem_drop (List.mem_of_mem_take hy)))
            · rename_i hbt
              have hbf : b = false := by simpa using hbt
              subst hbf
              obtain ⟨v, v', k1, k2, k3⟩ := part_one hb h g1 g2
              exact ⟨v, v', k1, by simp [Instr.index, asIntOf, run_underlying hu, h0, h1, run_size hc, k2], k3⟩
        | _ => cases b <;> simp [aFieldN, aField1] at h
      · cases h
    · cases h
  · cases h

theorem indexSl_sound {t e : TypeId} {c : Nat} {x i : AV} {x' i' : Value} {f : AV → Option α} (hu : P.underlying t = some (.slice e)) (hc : szOf P e = some c) (h : aIndexSl c x i f = some r) (hx : VR ι s w x x') (hi : VR ι s w i i') :
    ∃ v v', f v = some r ∧ (Instr.indexAt t x' i').run P w = .ok v' w ∧ VR ι s w v v' := by
  unfold aIndexSl at h
  split at h
  · rename_i l off n es' ep k j
    split at h
    · rename_i he
      subst he
      split at h
      · rename_i h0
        split at h
        · rename_i hlt
          cases hx with
          | sl hl hle ha hcap hr =>
            rename_i a cap
            cases hi
            refine ⟨_, .pointer (some (a.add (j.toNat * es'))), h, ?_, .ptr hl hle (fun e => ?_)⟩
            · simp only [Instr.indexAt, asIntOf, Sem.run_bind, Sem.run_pure, Result.andThen_ok, run_underlying hu, Sem.run_ite, if_pos (show 0 ≤ j ∧ j < (n : Int) from ⟨h0, hlt⟩), run_size hc]
            · obtain ⟨h1, h2⟩ := ha e
              obtain ⟨h3, _, _⟩ := h2 (by omega)
              exact ⟨by omega, by rw [h3, add_mk]; congr 1; omega⟩
        · cases h
      · cases h
    · cases h
  · cases h

theorem indexArr_sound {t e : TypeId} {len c : Nat} {x i : AV} {x' i' : Value} {f : AV → Option α} (hu : P.underlying t = some (.array len e)) (hc : szOf P e = some c) (h : aIndexArr len c x i f = some r) (hx : VR ι s w x x') (hi : VR ι s w i i') :
    ∃ v v', f v = some r ∧ (Instr.indexAt t x' i').run P w = .ok v' w ∧ VR ι s w v v' := by
  unfold aIndexArr at h
  split at h
  · rename_i l off ep k j
    split at h
    · rename_i h0
      split at h
      · rename_i hlt
        cases hx with
        | ptr hl hle ha =>
          rename_i a
          cases hi
          refine ⟨_, .pointer (some (a.add (j.toNat * c))), h, ?_, .ptr hl hle (fun e => ?_)⟩
          · simp only [Instr.indexAt, asIntOf, Sem.run_bind, Sem.run_pure, Result.andThen_ok, run_underlying hu, Instr.sureAddr, Sem.run_ite, if_pos (show 0 ≤ j ∧ j < (len : Int) from ⟨h0, hlt⟩), run_size hc]
          · obtain ⟨h1, h2⟩ := ha e
            exact ⟨by omega, by rw [h2, add_mk]; congr 1; omega⟩
      · cases h
    · cases h
  · cases h

theorem indexStr_sound {t : TypeId} {x i : AV} {x' i' : Value} {f : AV → Option α} (hu : P.underlying t = some .string) (h : aIndexStr x i f = some r) (hx : VR ι s w x x') (hi : VR ι s w i i') :
    ∃ v v', f v = some r ∧ (Instr.index t x' i').run P w = .ok v' w ∧ VR ι s w v v' := by
  unfold aIndexStr at h
  split at h
  · rename_i b k j
    split at h
    · rename_i h0
      split at h
      · rename_i hlt
        cases hx
        cases hi
        refine ⟨_, _, h, ?_, .int _ _⟩
        have : b[j.toNat]? = some (b[j.toNat]'hlt) := getElem?_pos b j.toNat hlt
        simp [Instr.index, asIntOf, run_underlying hu, h0, this]
      · cases h
    · cases h
  · cases h

theorem conv_int_sound {src dst : TypeId} {ks k : IntKind} {x : AV} {x' : Value} {f : AV → Option α} (hs : P.underlying src = some (.int ks)) (hd : P.underlying dst = some (.int k)) (h : aConvInt k x f = some r) (hx : VR ι s w x x') :
    ∃ v v', f v = some r ∧ (convert src dst x').run P w = .ok v' w ∧ VR ι s w v v' := by
  unfold aConvInt at h
  split at h
  · cases hx
    exact ⟨_, _, h, by simp [convert, run_underlying hs, run_underlying hd, Conv.intToInt], .int _ _⟩
  · cases h

theorem conv_str_sound {src dst : TypeId} {x : AV} {x' : Value} {f : ByteArray → Option α} (hs : P.underlying src = some .string) (hd : P.underlying dst = some .string) (h : aStr x f = some r) (hx : VR ι s w x x') :
    ∃ b, f b = some r ∧ (convert src dst x').run P w = .ok (.string b) w := by
  unfold aStr at h
  split at h
  · cases hx
    exact ⟨_, h, by simp [convert, run_underlying hs, run_underlying hd]⟩
  · cases h

theorem bytesOf_sound {src dst e : TypeId} {x : AV} {x' : Value} (hs : P.underlying src = some .string) (hd : P.underlying dst = some (.slice e)) (he : P.underlying e = some (.int .u8)) (h : aBytesOf x s κ = some r) (hx : VR ι s w x x') (hW : WR B w0 ι s w) :
    Done P call B w0 ι s w (convert src dst x' >>= fun a => pure (.value a)) κ r := by
  unfold aBytesOf at h
  cases x with
  | str b =>
    cases hx
    have hrun := run_bytes_of_string (P := P) w src dst e b hs hd he
    generalize hcap : grownCap w b.size 0 e = cap at hrun
    have hW2 := hW.draw (w' := w.drew) rfl rfl rfl rfl
    have hlen : (b.data.toList.map fun c => AV.int .u8 c.toNat).length = b.size := by simp
    have htl : (bytesRow b cap).toList.take b.size = b.data.toList.map fun c => Value.int .u8 c.toNat := by
      unfold bytesRow
      rw [Array.toList_append, List.take_append_of_le_length (by simp), Array.toList_map]
      exact List.take_of_length_le (by simp)
    have hsz : (bytesRow b cap).size = b.size + (cap - b.size) := by simp [bytesRow]
    have hb1 : ∀ y ∈ (bytesRow b cap).toList.take b.size, y.oneCell' = true := by
      rw [htl]; intro y hy; obtain ⟨c, _, rfl⟩ := List.mem_map.1 hy; rfl
    obtain ⟨ι', h5, h6, h7⟩ := push_cells hW2.1 (cs := b.data.toList.map fun c => AV.int .u8 c.toNat) (c := bytesRow b cap) e ((bytesRow b cap).size, (bytesRow b cap).size + 1) true
      (w' := w.drew.alloc (.cells (bytesRow b cap) e ((bytesRow b cap).size, (bytesRow b cap).size + 1))) rfl rfl rfl rfl (by
        rw [hlen, htl]
        refine ⟨by simp, fun i x y hx hy => ?_⟩
        rw [List.getElem?_map] at hx hy
        cases hd : b.data.toList[i]? with
        | none => rw [hd] at hx; cases hx
        | some c =>
          rw [hd] at hx hy
          simp only [Option.map_some, Option.some.injEq] at hx hy
          subst hx; subst hy; exact .int _ _) (by rw [hlen]; exact hb1) (by simp)
    have hcap1 : b.size ≤ cap := by
      rw [← hcap]; exact grownCap_ge _ _ _ _
    exact .v h hrun (new_sl h7 (c := bytesRow b cap) rfl (by rw [hlen]) hcap1 (by omega) (by omega)) h5 (hW2.2.trans h6)
  | _ => simp [aStr] at h

theorem runes_one (b : ByteArray) : ∀ (n i : Nat) (acc : Array Value), (∀ y ∈ acc.toList, y.oneCell' = true) → ∀ y ∈ (Conv.runesFrom b n i acc).toList, y.oneCell' = true
  | 0, _, acc, h => by simpa [Conv.runesFrom] using h
  | n + 1, i, acc, h => by
    unfold Conv.runesFrom
    split
    · refine runes_one b n _ _ fun y hy => ?_
      rw [Array.toList_push, List.mem_append, List.mem_singleton] at hy
      rcases hy with hy | rfl
      · exact h y hy
      · rfl
    · exact h
theorem runesOf_sound {src dst e : TypeId} {x : AV} {x' : Value} (hs : P.underlying src = some .string) (hd : P.underlying dst = some (.slice e)) (he : P.underlying e = some (.int .i32)) (h : aRunesOf x s κ = some r) (hx : VR ι s w x x') (hW : WR B w0 ι s w) :
    Done P call B w0 ι s w (convert src dst x' >>= fun a => pure (.value a)) κ r := by
  unfold aRunesOf at h
  cases x with
  | str b =>
    cases hx
    simp only [aStr] at h
    split at h
    · rename_i h46
      have hrun := run_runes_of_string (P := P) w src dst e b hs hd he h46
      have hone := runes_one b b.size 0 #[] (by simp)
      generalize Conv.runesFrom b b.size 0 #[] = R at h hrun hone h46
      generalize hcap : grownCap w R.size 0 e = cap at hrun
      have hW2 := hW.draw (w' := w.drew) rfl rfl rfl rfl
      have hlen : (R.toList.map ofVal).length = R.size := by simp
      have htl : (R ++ Array.replicate (cap - R.size) (Value.int .i32 0)).toList.take R.size = R.toList := by
        rw [Array.toList_append, List.take_append_of_le_length (by simp)]
        exact List.take_of_length_le (by simp)
      have hsz : (R ++ Array.replicate (cap - R.size) (Value.int .i32 0)).size = R.size + (cap - R.size) := by simp
      obtain ⟨ι', h5, h6, h7⟩ := push_cells hW2.1 (cs := R.toList.map ofVal) (c := R ++ Array.replicate (cap - R.size) (Value.int .i32 0)) e (0, 0) false
        (w' := w.drew.alloc (.cells (R ++ Array.replicate (cap - R.size) (Value.int .i32 0)) e)) rfl rfl rfl rfl (by rw [hlen, htl]; exact vrs_ofVal _ _ _ _) (by rw [hlen, htl]; exact hone) (fun _ => rfl)
      have hcap1 : R.size ≤ cap := by
        rw [← hcap]; exact grownCap_ge _ _ _ _
      exact .v h hrun (new_sl h7 (c := R ++ Array.replicate (cap - R.size) (Value.int .i32 0)) rfl (by rw [hlen]) hcap1 (by omega) (by omega)) h5 (hW2.2.trans h6)
    · cases h
  | _ => simp [aStr] at h

theorem bytesAt_sound : ∀ {xs : List AV} {b : List UInt8} {ys : List Value}, bytesAt xs = some b → VRs ι s w xs ys → ∃ ns : List Int, ys = ns.map (Value.int .u8) ∧ ns.foldl (fun r n => r.push (UInt8.ofNat n.toNat)) ByteArray.empty = ⟨b.toArray⟩ := by
  have key : ∀ {xs : List AV} {b : List UInt8} {ys : List Value}, bytesAt xs = some b → VRs ι s w xs ys → ∃ ns : List Int, ys = ns.map (Value.int .u8) ∧ ∀ r : ByteArray, ns.foldl (fun r n => r.push (UInt8.ofNat n.toNat)) r = ⟨r.data ++ b.toArray⟩ := by
    intro xs
    induction xs with
    | nil =>
      intro b ys h hv
      obtain rfl := Option.some.inj h
      have : ys = [] := List.length_eq_zero_iff.1 hv.1.symm
      exact ⟨[], by simp [this], fun r => by simp⟩
    | cons x xs ih =>
      intro b ys h hv
      unfold bytesAt at h
      split at h
      · rename_i h0; cases h0
      · rename_i n rest h0
        injection h0 with h1 h2
        subst h1; subst h2
        obtain ⟨b1, hb1, rfl⟩ := Option.map_eq_some_iff.1 h
        cases ys with
        | nil => have := hv.1; simp at this
        | cons y ys =>
          obtain ⟨ns, e, hf⟩ := ih hb1 (by simpa using hv.drop 1)
          have hy := hv.2 0 _ _ rfl rfl
          cases hy
          refine ⟨n :: ns, by simp [e], fun r => ?_⟩
          rw [List.foldl_cons, hf]
          simp [ByteArray.push]
      · cases h
  intro xs b ys h hv
  obtain ⟨ns, h1, h2⟩ := key h hv
  exact ⟨ns, h1, by rw [h2]; simp⟩

theorem strOf_sound {src dst e : TypeId} {x : AV} {x' : Value} {f : AV → Option α} (hs : P.underlying src = some (.slice e)) (he : P.underlying e = some (.int .u8)) (hd : P.underlying dst = some .string) (h : aStrOf x s f = some r) (hx : VR ι s w x x') (hW : WR B w0 ι s w) :
    ∃ v v', f v = some r ∧ (convert src dst x').run P w = .ok v' w ∧ VR ι s w v v' := by
  unfold aStrOf at h
  split at h
  · cases hx
    exact ⟨_, _, h, by rw [run_convert_bytes_string w src dst e none 0 0 hs he hd]; rfl, .str _⟩
  · rename_i l off n es ep
    obtain ⟨xs, ro, hg, hep, h⟩ := row_of h
    split at h
    · rename_i hn
      split at h
      · rename_i b hb
        cases hx with
        | sl hl hle ha hc hr =>
          rename_i a cap
          obtain ⟨h1, h2⟩ := ha (by rw [hg]; show _ + 1 = _ + 1; omega)
          obtain ⟨ys, k1, k2, k3, k4⟩ := cells_at hW hl hg off n hn h1
          obtain ⟨ns, rfl, hf⟩ := bytesAt_sound hb k2
          refine ⟨_, _, h, ?_, .str _⟩
          have hload : (loadCells a n).run P w = .ok (ns.map (Value.int .u8)).toArray w := by
            by_cases h0 : 0 < cap
            · obtain ⟨h3, _, _⟩ := h2 h0
              rw [h3, ← k1]
              exact run_loadCells_list (P := P) w _ _ k4
            · have : n = 0 := by omega
              subst this
              have : ns.map (Value.int .u8) = [] := List.length_eq_zero_iff.1 k1
              rw [this]
              simp [loadCells, loadCellsFrom]
          rw [run_convert_bytes_string w src dst e (some a) n cap hs he hd, run_bytesToString w a n cap ns hload, hf]
      · cases h
    · cases h
  · cases h

theorem extract_sound {i : Nat} {x : AV} {x' : Value} {f : AV → Option α} (h : aExtract i x f = some r) (hx : VR ι s w x x') : ∃ v v', f v = some r ∧ (Instr.extract x' i).run P w = .ok v' w ∧ VR ι s w v v' := by
  unfold aExtract at h
  split at h
  · cases hx with
    | tuple h1 h2 =>
      rename_i vs vs'
      split at h
      · rename_i v hv
        have hj := (List.getElem?_eq_some_iff.1 hv).1
        have h3 : vs'[i]? = some (vs'[i]'(by omega)) := Array.getElem?_eq_getElem (by omega)
        exact ⟨v, _, h, by simp [Instr.extract, h3], h2 i v _ hv h3⟩
      · cases h
  · cases h
end
end Go.Proofs.YtjbgdpfkmcibbaaGreatDoor.Sim
