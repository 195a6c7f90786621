/- The texts SimG, SimH, SimI, one behind the other. No condition. -/
import Derived.Test.YtkfdgegmahbkiaaSimF
import Derived.Laws.StructEq
import Derived.Laws.BytesString
import Derived.Laws.IdiomStrings
import Derived.Laws.MakeOwn
namespace Go.Proofs.Ytkfdgegmahbkiaa.Sim
open Go.RowKit (Below)

/-- What an operation's run comes to: a value, or a call. -/
def Done {α : Type} (P : Program) (call : CallA) (B : Nat) (w0 : World) (ι : Nat → Loc) (s : Store) (w : World) (m : Sem Next) (κ : AV → Store → Option α) (r : α) : Prop :=
  (∃ v s' nx v' w' ι', κ v s' = some r ∧ m.run P w = .ok nx w' ∧ (nx = .value v' ∨ (nx = .skip ∧ v' = undef)) ∧ VR ι' s' w' v v' ∧ WR B w0 ι' s' w' ∧ Later ι s w ι' s' w') ∨
  (∃ g args args' v s', m.run P w = .ok (.enter g args') w ∧ VRs ι s w args args'.toList ∧ call g args s = some (v, s') ∧ κ v s' = some r)

section
variable {P : Program} {call : CallA} {B : Nat} {w0 : World} {ι : Nat → Loc} {s : Store} {w : World} {α : Type} {r : α} {κ : AV → Store → Option α}

theorem Done.v {m : Sem Value} {v : AV} {s' : Store} {v' : Value} {w' : World} {ι' : Nat → Loc} (hk : κ v s' = some r) (hr : m.run P w = .ok v' w') (hv : VR ι' s' w' v v') (hW : WR B w0 ι' s' w') (hL : Later ι s w ι' s' w') :
    Done P call B w0 ι s w (m >>= fun a => pure (.value a)) κ r :=
  .inl ⟨v, s', _, v', w', ι', hk, by rw [Sem.run_bind, hr]; rfl, .inl rfl, hv, hW, hL⟩
theorem Done.v0 {m : Sem Value} {v : AV} {v' : Value} (hW : WR B w0 ι s w) (hk : κ v s = some r) (hr : m.run P w = .ok v' w) (hv : VR ι s w v v') : Done P call B w0 ι s w (m >>= fun a => pure (.value a)) κ r :=
  .v hk hr hv hW (Later.refl _ _ _)
theorem Done.u {m : Sem Unit} {s' : Store} {w' : World} {ι' : Nat → Loc} (hk : κ (.tuple []) s' = some r) (hr : m.run P w = .ok () w') (hW : WR B w0 ι' s' w') (hL : Later ι s w ι' s' w') :
    Done P call B w0 ι s w (m >>= fun _ => pure .skip) κ r :=
  .inl ⟨.tuple [], s', _, undef, w', ι', hk, by rw [Sem.run_bind, hr]; rfl, .inr ⟨rfl, rfl⟩, .tuple rfl (fun i x y hx => by simp at hx), hW, hL⟩

theorem ofVal_sound (ι : Nat → Loc) (s : Store) (w : World) (v : Value) : VR ι s w (ofVal v) v := by
  unfold ofVal
  split <;> first | exact .bool _ | exact .int _ _ | exact .str _ | exact .nilptr | exact .nilsl | exact .nilmap | exact .nilfunc | exact .nilif | exact .junk _

theorem vrs_ofVal (ι : Nat → Loc) (s : Store) (w : World) (vs : List Value) : VRs ι s w (vs.map ofVal) vs :=
  ⟨by simp, fun i x y hx hy => by rw [List.getElem?_map, hy] at hx; simp only [Option.map_some, Option.some.injEq] at hx; subst hx; exact ofVal_sound _ _ _ _⟩

theorem zeros_of {t : TypeId} {zs : List AV} (h : zerosOf P t = some zs) : ∃ i z, P.info? t = some i ∧ i.zero = some z ∧ zs = z.cells.toList.map ofVal ∧ ∀ y ∈ z.cells.toList, y.oneCell' = true := by
  unfold zerosOf at h
  cases hi : P.info? t with
  | none => rw [hi] at h; simp at h
  | some i =>
    rw [hi] at h
    simp only [Option.bind_some] at h
    cases hz : i.zero with
    | none => rw [hz] at h; simp at h
    | some z =>
      rw [hz] at h
      simp only [Option.bind_some] at h
      split at h
      · rename_i hone
        refine ⟨i, z, rfl, hz, by simpa using h.symm, fun y hy => ?_⟩
        have := List.all_eq_true.1 hone y hy
        cases y <;> simp_all [Value.oneCell']
      · cases h

theorem run_zero {t : TypeId} {i : TypeInfo} {z : Value} (hi : P.info? t = some i) (hz : i.zero = some z) (w : World) : (zeroValue t).run P w = .ok z w := by
  simp [zeroValue, Go.run_typeInfo _ hi, hz]

theorem size_of {t : TypeId} {n : Nat} (h : szOf P t = some n) : ∃ i, P.info? t = some i ∧ i.size = n := by
  unfold szOf at h
  cases hi : P.info? t with
  | none => rw [hi] at h; cases h
  | some i => rw [hi] at h; exact ⟨i, rfl, by simpa using h⟩

theorem run_size {t : TypeId} {n : Nat} (h : szOf P t = some n) (w : World) : (sizeOf t).run P w = .ok n w := by
  obtain ⟨i, hi, rfl⟩ := size_of h
  simp [sizeOf, Go.run_typeInfo _ hi]

theorem run_agg {t : TypeId} {b : Bool} (h : aggOf P t = some b) (w : World) : (isAgg t).run P w = .ok b w := by
  unfold aggOf at h
  split at h
  · rename_i hu; obtain rfl := Option.some.inj h; simp [isAgg, run_underlying hu]
  · rename_i hu; obtain rfl := Option.some.inj h; simp [isAgg, run_underlying hu]
  · rename_i h1 h2 hu
    obtain rfl := Option.some.inj h
    rename_i d
    cases d <;> first | exact (h1 _ rfl).elim | exact (h2 _ _ rfl).elim | simp [isAgg, run_underlying hu]
  · cases h

/-- A new row. -/
theorem new_sound {cs : List AV} {vs : Array Value} (ty : TypeId) (h : aNew cs s κ = some r) (hc : VRs ι s w cs vs.toList) (h1 : ∀ y ∈ vs.toList, y.oneCell' = true) (hW : WR B w0 ι s w) :
    Done P call B w0 ι s w ((newRow ty vs >>= fun a => pure (Value.pointer (some a))) >>= fun a => pure (.value a)) κ r := by
  have e : vs.toList.take cs.length = vs.toList := List.take_of_length_le (by rw [hc.1]; exact Nat.le_refl _)
  obtain ⟨ι', h5, h6, h7⟩ := push_cells hW (cs := cs) (c := vs) ty (0, 0) false (w' := w.alloc (.cells vs ty)) rfl rfl rfl rfl (by rw [e]; exact hc) (by rw [e]; exact h1) (fun _ => rfl)
  exact .v h (by simp [newRow]) (new_ptr h7) h5 h6

theorem load_sound {t : TypeId} {p : AV} {p' : Value} (h : (match aggOf P t, szOf P t with | some true, some n => aLoadN n p s fun v => κ v s | some false, _ => aLoad1 p s fun v => κ v s | _, _ => none) = some r) (hp : VR ι s w p p') (hW : WR B w0 ι s w) :
    ∃ v v', κ v s = some r ∧ (Instr.loadAt t p').run P w = .ok v' w ∧ VR ι s w v v' := by
  split at h
  · rename_i n ha hn
    obtain ⟨a, vs, ys, rfl, hk, hrun, hv, h1⟩ := loadN_sound (P := P) h hp hW
    refine ⟨_, _, hk, ?_, hv.agg h1⟩
    simp [Instr.loadAt, Instr.sureAddr, loadVar, run_agg ha, run_size hn, hrun]
  · rename_i ha
    obtain ⟨a, v, v', rfl, hk, hc, hv, h1⟩ := load1_sound h hp hW
    refine ⟨_, _, hk, ?_, hv⟩
    simp [Instr.loadAt, Instr.sureAddr, loadVar, run_agg ha, run_load, hc]
  · cases h

theorem store_sound {t : TypeId} {n : Nat} {p x : AV} {p' x' : Value} {f : Store → Option α} (hn : szOf P t = some n) (h : aStore n p x s f = some r) (hp : VR ι s w p p') (hx : VR ι s w x x') (hW : WR B w0 ι s w) :
    ∃ s' w' ι', f s' = some r ∧ (Instr.storeAt t p' x').run P w = .ok () w' ∧ WR B w0 ι' s' w' ∧ Later ι s w ι' s' w' := by
  cases p with
  | ptr l off ep =>
    simp only [aStore] at h
    obtain ⟨cs, hk, hcs, hone⟩ := aCells_sound h hx
    obtain ⟨xs, hg, hep, hk⟩ := own_of hk
    split at hk
    · rename_i hc
      obtain ⟨hcn, hoff⟩ := hc
      cases hp with
      | ptr hl hle ha =>
        obtain ⟨hsh, hadr⟩ := ha (by rw [hg]; show _ + 1 = _ + 1; omega)
        obtain ⟨w', hst, hW', hL'⟩ := set_cells (P := P) hW hl hg off hsh (by omega) hcs hone
        refine ⟨_, w', ι, hk, ?_, hW', hL'⟩
        have hcl : cs.length = x'.cells.size := by simpa using hcs.1
        have hsz : x'.cells.size = n := by omega
        simp [Instr.storeAt, Instr.sureAddr, storeVar, run_size hn, hsz, hadr, hst]
    · cases hk
  | _ => simp [aStore] at h

theorem build_sound : ∀ {ps : List (Nat × Nat × AV)} {qs : List (Nat × Value)} {pl : Nat → Option (Nat × Nat)} {cs : List AV} {c : Array Value} {f : List AV → Option α}, aBuild ps cs f = some r → VRs ι s w cs c.toList → (∀ y ∈ c.toList, y.oneCell' = true) →
    ps.length = qs.length → (∀ (i : Nat) p q, ps[i]? = some p → qs[i]? = some q → pl q.1 = some (p.1, p.2.1) ∧ VR ι s w p.2.2 q.2) →
    ∃ cs' c', f cs' = some r ∧ Instr.fill pl c qs = some c' ∧ VRs ι s w cs' c'.toList ∧ ∀ y ∈ c'.toList, y.oneCell' = true
  | [], [], pl, cs, c, f, h, hc, h1, _, _ => ⟨cs, c, h, rfl, hc, h1⟩
  | [], _ :: _, _, _, _, _, _, _, _, hl, _ => by simp at hl
  | _ :: _, [], _, _, _, _, _, _, _, hl, _ => by simp at hl
  | (off, size, x) :: ps, (i, v) :: qs, pl, cs, c, f, h, hc, h1, hl, hq => by
    obtain ⟨hpl, hv⟩ := hq 0 _ _ rfl rfl
    simp only [aBuild] at h
    obtain ⟨vs, hk, hvs, hone⟩ := aCells_sound h hv
    split at hk
    · rename_i hcond
      have hvl : vs.length = v.cells.size := by simpa using hvs.1
      have hcl : cs.length = c.size := by simpa using hc.1
      have hput := VRs.putAll off hc hvs
      have key : ∀ (l : List Value) (o : Nat) (a : Array Value), (l.zipIdx o).foldl (fun cs (c, j) => cs.setIfInBounds (off + j) c) a = (putAllV a.toList (off + o) l).toArray := by
        intro l
        induction l with
        | nil => intro o a; simp [putAllV]
        | cons z l ih =>
          intro o a
          rw [List.zipIdx_cons, List.foldl_cons, ih, putAllV]
          simp [Nat.add_assoc]
      have hfold : (v.cells.zipIdx.foldl (fun cs (c, j) => cs.setIfInBounds (off + j) c) c) = (putAllV c.toList off v.cells.toList).toArray := by
        rw [← Array.foldl_toList, Array.toList_zipIdx]
        exact key _ 0 c
      obtain ⟨cs', c', h5, h6, h7, h8⟩ := build_sound (ps := ps) (qs := qs) (pl := pl) (c := (putAllV c.toList off v.cells.toList).toArray) hk hput (fun y hy => by
        rcases mem_putAllV _ _ _ y hy with hy | hy
        · exact hone y hy
        · exact h1 y hy) (by simpa using hl) (fun j p q hp hq' => hq (j + 1) p q (by simpa using hp) (by simpa using hq'))
      refine ⟨cs', c', h5, ?_, h7, h8⟩
      rw [Instr.fill, show pl (i, v).1 = some (off, size) from hpl]
      simp only
      rw [if_neg (by simp; omega), hfold]
      exact h6
    · cases hk

theorem parts_of {pl : Nat → Option (Nat × Nat)} {ρ : Operand → AV} {ρ' : Operand → Value} (hρ : ∀ x, VR ι s w (ρ x) (ρ' x)) : ∀ {parts : List (Nat × Operand)} {ps : List (Nat × Nat × AV)}, partsOf pl ρ parts = some ps →
    ps.length = (parts.map fun p => (p.1, ρ' p.2)).length ∧ ∀ (i : Nat) p q, ps[i]? = some p → (parts.map fun p => (p.1, ρ' p.2))[i]? = some q → pl q.1 = some (p.1, p.2.1) ∧ VR ι s w p.2.2 q.2
  | [], ps, h => by obtain rfl := Option.some.inj h; exact ⟨rfl, fun i p q hp => by simp at hp⟩
  | (a, o) :: parts, ps, h => by
    simp only [partsOf] at h
    split at h
    · rename_i q l hq hl
      obtain rfl := Option.some.inj h
      obtain ⟨h1, h2⟩ := parts_of hρ hl
      refine ⟨by simpa using h1, fun i p q' hp hq' => ?_⟩
      cases i with
      | zero =>
        simp only [List.getElem?_cons_zero, Option.some.injEq, List.map_cons] at hp hq'
        subst hp; subst hq'
        exact ⟨hq, hρ _⟩
      | succ i => exact h2 i p q' (by simpa using hp) (by simpa using hq')
    · cases h

theorem eqCells_app : ∀ {ks ks2 : List EK} {xs ys : List AV} {b : Bool}, eqCells (ks ++ ks2) xs ys = some b → ∃ b1 b2, eqCells ks (xs.take ks.length) (ys.take ks.length) = some b1 ∧ eqCells ks2 (xs.drop ks.length) (ys.drop ks.length) = some b2 ∧ b = (b1 && b2)
  | [], ks2, xs, ys, b, h => ⟨true, b, by simp [eqCells], by simpa using h, by simp⟩
  | k :: ks, ks2, xs, ys, b, h => by
    have fin : ∀ {c : Bool} {xs ys : List AV}, (eqCells (ks ++ ks2) xs ys).map (fun r => c && r) = some b → ∃ b1 b2, (eqCells ks (xs.take ks.length) (ys.take ks.length)).map (fun r => c && r) = some b1 ∧ eqCells ks2 (xs.drop ks.length) (ys.drop ks.length) = some b2 ∧ b = (b1 && b2) := fun {c xs ys} q => by
      obtain ⟨r, q1, rfl⟩ := Option.map_eq_some_iff.1 q
      obtain ⟨b1, b2, g1, g2, rfl⟩ := eqCells_app q1
      exact ⟨c && b1, b2, by rw [g1]; rfl, g2, by rw [Bool.and_assoc]⟩
    simp only [List.cons_append] at h
    cases xs with
    | nil => cases k <;> simp [eqCells] at h
    | cons x xs =>
      cases ys with
      | nil => cases k <;> cases x <;> simp [eqCells] at h
      | cons y ys =>
        simp only [List.length_cons, List.take_succ_cons, List.drop_succ_cons]
        cases k <;> cases x <;> cases y <;> simp only [eqCells] at h ⊢ <;> try (cases h; done)
        · exact fin h
        · split at h
          · rename_i hk
            rw [if_pos hk]
            exact fin h
          · cases h
        · exact fin h
/-- What is known of a struct within. -/
def SubEq (P : Program) (ι : Nat → Loc) (s : Store) (w : World) (sub : List Field → Option (List EK)) (d0 : Nat) : Prop := ∀ (gs : List Field) (ks : List EK) (xs ys : List AV) (b : Bool) (xs' ys' : Array Value) (d : Nat), d0 ≤ d → sub gs = some ks → eqCells ks xs ys = some b →
  (∀ (j : Nat) x, xs[j]? = some x → ∃ x', xs'[0 + j]? = some x' ∧ VR ι s w x x') → (∀ (j : Nat) x, ys[j]? = some x → ∃ x', ys'[0 + j]? = some x' ∧ VR ι s w x x') → (Op.eqFields d xs' ys' gs).run P w = .ok b w
theorem part_agg {t : TypeId} {gs : Array Field} {n i : Nat} (hu : P.underlying t = some (.struct gs)) (hn : szOf P t = some n) (cs : Array Value) (w : World) : (part t cs i).run P w = .ok (.agg (cs.extract i (i + n))) w := by
  have hag : aggOf P t = some true := by unfold aggOf; rw [hu]
  simp only [part, Sem.run_bind, run_agg hag, run_size hn, Result.andThen_ok, if_true, Sem.run_pure]
theorem get_part {xs : List AV} {xs' : Array Value} {i n : Nat} (hx : ∀ (j : Nat) x, xs[j]? = some x → ∃ x', xs'[i + j]? = some x' ∧ VR ι s w x x') : ∀ (j : Nat) x, (xs.take n)[j]? = some x → ∃ x', (xs'.extract i (i + n))[0 + j]? = some x' ∧ VR ι s w x x' := by
  intro j x hj
  rw [List.getElem?_take] at hj
  split at hj
  · rename_i hjn
    obtain ⟨x', h1, h2⟩ := hx j x hj
    have hlt := (Array.getElem?_eq_some_iff.1 h1).1
    refine ⟨x', ?_, h2⟩
    rw [Nat.zero_add, Array.getElem?_extract, if_pos (by omega)]
    exact h1
  · cases hj
/-- A comparison of structs. -/
theorem eqStep_sound {sub : List Field → Option (List EK)} {d0 : Nat} (hsub : SubEq P ι s w sub d0) : ∀ {fs : List Field} {i : Nat} {ks : List EK} {xs ys : List AV} {b : Bool} {xs' ys' : Array Value} (d : Nat), d0 ≤ d → ekStep P sub i fs = some ks → eqCells ks xs ys = some b →
    (∀ (j : Nat) x, xs[j]? = some x → ∃ x', xs'[i + j]? = some x' ∧ VR ι s w x x') → (∀ (j : Nat) x, ys[j]? = some x → ∃ x', ys'[i + j]? = some x' ∧ VR ι s w x x') → (Op.eqFields (d + 1) xs' ys' fs).run P w = .ok b w
  | [], i, ks, xs, ys, b, xs', ys', d, _, h, hb, _, _ => by
    obtain rfl := Option.some.inj h
    cases xs <;> cases ys <;> simp [eqCells] at hb
    subst hb
    simp [Op.eqFields]
  | f :: fs, i, ks, xs, ys, b, xs', ys', d, hd0, h, hb, hx, hy => by
    simp only [ekStep] at h
    split at h
    · cases h
    · rename_i hname
      split at h
      · rename_i hoff
        have one : ∀ (a a' : AV) (v v' : Value) (c : Bool) (xs1 ys1 : List AV) (ks1 : List EK) (r1 : Bool), xs = a :: xs1 → ys = a' :: ys1 → aggOf P f.type = some false → ekStep P sub (i + 1) fs = some ks1 → eqCells ks1 xs1 ys1 = some r1 →
            (∀ x', VR ι s w a x' → x' = v) → (∀ x', VR ι s w a' x' → x' = v') → (Op.equalIn (d + 1) f.type v v').run P w = .ok c w → (Op.eqFields (d + 1) xs' ys' (f :: fs)).run P w = .ok (c && r1) w := by
          intro a a' v v' c xs1 ys1 ks1 r1 e1 e2 hag hek hr1 hv hv' hrun
          subst e1; subst e2
          obtain ⟨x', hx1, hx2⟩ := hx 0 _ rfl
          obtain ⟨y', hy1, hy2⟩ := hy 0 _ rfl
          obtain rfl := hv x' hx2
          obtain rfl := hv' y' hy2
          have ih := eqStep_sound hsub (xs := xs1) (ys := ys1) (xs' := xs') (ys' := ys') d hd0 hek hr1 (fun j x hj => by
            have := hx (j + 1) x (by simpa using hj)
            rwa [show i + (j + 1) = i + 1 + j by omega] at this) (fun j x hj => by
            have := hy (j + 1) x (by simpa using hj)
            rwa [show i + (j + 1) = i + 1 + j by omega] at this)
          rw [Nat.add_zero] at hx1 hy1
          simp only [Op.eqFields, if_pos (show f.name ≠ "_" from hname), Sem.run_bind, part, run_agg hag, hoff, hx1, hy1, Result.andThen_ok, Sem.run_pure, Bool.false_eq_true, if_false, hrun]
          cases c
          · simp
          · simpa using ih
        split at h
        · rename_i hu
          obtain ⟨ks1, hek, rfl⟩ := Option.map_eq_some_iff.1 h
          cases xs with
          | nil => simp [eqCells] at hb
          | cons a xs1 =>
            cases ys with
            | nil => cases a <;> simp [eqCells] at hb
            | cons a' ys1 =>
              cases a <;> cases a' <;> simp only [eqCells] at hb <;> try (cases hb; done)
              rename_i p q
              obtain ⟨r1, hr1, rfl⟩ := Option.map_eq_some_iff.1 hb
              exact one (.bool p) (.bool q) (.bool p) (.bool q) (p == q) _ _ _ _ rfl rfl (by unfold aggOf; rw [hu]) hek hr1 (fun x' hx' => by cases hx'; rfl) (fun x' hx' => by cases hx'; rfl) (by simp [Op.equalIn, run_underlying hu])
        · rename_i k hu
          obtain ⟨ks1, hek, rfl⟩ := Option.map_eq_some_iff.1 h
          cases xs with
          | nil => simp [eqCells] at hb
          | cons a xs1 =>
            cases ys with
            | nil => cases a <;> simp [eqCells] at hb
            | cons a' ys1 =>
              cases a <;> cases a' <;> simp only [eqCells] at hb <;> try (cases hb; done)
              rename_i k1 p k2 q
              split at hb
              · rename_i hkk
                subst hkk
                obtain ⟨r1, hr1, rfl⟩ := Option.map_eq_some_iff.1 hb
                exact one (.int k1 p) (.int k1 q) (.int k1 p) (.int k1 q) (p == q) _ _ _ _ rfl rfl (by unfold aggOf; rw [hu]) hek hr1 (fun x' hx' => by cases hx'; rfl) (fun x' hx' => by cases hx'; rfl) (by simp [Op.equalIn, run_underlying hu])
              · cases hb
        · rename_i hu
          obtain ⟨ks1, hek, rfl⟩ := Option.map_eq_some_iff.1 h
          cases xs with
          | nil => simp [eqCells] at hb
          | cons a xs1 =>
            cases ys with
            | nil => cases a <;> simp [eqCells] at hb
            | cons a' ys1 =>
              cases a <;> cases a' <;> simp only [eqCells] at hb <;> try (cases hb; done)
              rename_i p q
              obtain ⟨r1, hr1, rfl⟩ := Option.map_eq_some_iff.1 hb
              exact one (.str p) (.str q) (.string p) (.string q) (p == q) _ _ _ _ rfl rfl (by unfold aggOf; rw [hu]) hek hr1 (fun x' hx' => by cases hx'; rfl) (fun x' hx' => by cases hx'; rfl) (by simp [Op.equalIn, run_underlying hu])
        · rename_i gs hu
          split at h
          · rename_i ks1 hks1
            split at h
            · rename_i hcond
              obtain ⟨ks2, hek, rfl⟩ := Option.map_eq_some_iff.1 h
              obtain ⟨b1, b2, g1, g2, rfl⟩ := eqCells_app hb
              have hff : P.fieldsOf f.type = gs := by simp [Program.fieldsOf, hu]
              have hr1 := hsub gs.toList ks1 _ _ b1 _ _ d hd0 hks1 g1 (get_part (n := ks1.length) hx) (get_part (n := ks1.length) hy)
              have heq : (Op.equalIn (d + 1) f.type (.agg (xs'.extract i (i + ks1.length))) (.agg (ys'.extract i (i + ks1.length)))).run P w = .ok b1 w := by
                rw [run_equalIn_struct w d f.type _ _ (by rw [hff]; exact hu) hcond.1, hff]
                exact hr1
              have sh : ∀ {zs : List AV} {zs' : Array Value}, (∀ (j : Nat) x, zs[j]? = some x → ∃ x', zs'[i + j]? = some x' ∧ VR ι s w x x') → ∀ (j : Nat) x, (zs.drop ks1.length)[j]? = some x → ∃ x', zs'[i + ks1.length + j]? = some x' ∧ VR ι s w x x' := fun hz j x hj => by
                rw [List.getElem?_drop] at hj
                have := hz _ x hj
                rwa [show i + (ks1.length + j) = i + ks1.length + j by omega] at this
              have ih := eqStep_sound hsub (xs' := xs') (ys' := ys') d hd0 hek g2 (sh hx) (sh hy)
              simp only [Op.eqFields, if_pos (show f.name ≠ "_" from hname), Sem.run_bind, hoff, part_agg hu hcond.2, Result.andThen_ok, heq]
              cases b1
              · simp
              · simpa using ih
            · cases h
          · cases h
        · cases h
      · cases h
theorem eqFields_sound : ∀ (n : Nat) {fs : List Field} {i : Nat} {ks : List EK} {xs ys : List AV} {b : Bool} {xs' ys' : Array Value} (d : Nat), n ≤ d → ekFields P n i fs = some ks → eqCells ks xs ys = some b →
    (∀ (j : Nat) x, xs[j]? = some x → ∃ x', xs'[i + j]? = some x' ∧ VR ι s w x x') → (∀ (j : Nat) x, ys[j]? = some x → ∃ x', ys'[i + j]? = some x' ∧ VR ι s w x x') → (Op.eqFields (d + 1) xs' ys' fs).run P w = .ok b w
  | 0, fs, i, ks, xs, ys, b, xs', ys', d, hd, h, hb, hx, hy => eqStep_sound (d0 := 0) (sub := fun _ => none) (fun gs ks xs ys b xs' ys' d _ q => by cases q) d (Nat.zero_le _) h hb hx hy
  | n + 1, fs, i, ks, xs, ys, b, xs', ys', d, hd, h, hb, hx, hy => eqStep_sound (d0 := n + 1) (sub := fun gs => ekFields P n 0 gs) (fun gs ks xs ys b xs' ys' d hd q q1 q2 q3 => by
      obtain ⟨d1, rfl⟩ : ∃ d1, d = d1 + 1 := ⟨d - 1, by omega⟩
      exact eqFields_sound n d1 (by omega) q q1 q2 q3) d hd h hb hx hy
end
end Go.Proofs.Ytkfdgegmahbkiaa.Sim
namespace Go.Proofs.Ytkfdgegmahbkiaa.Sim
open Go.RowKit (Below)
set_option linter.unusedSimpArgs false
section
variable {P : Program} {call : CallA} {B : Nat} {w0 : World} {ι : Nat → Loc} {s : Store} {w : World} {α : Type} {r : α} {κ : AV → Store → Option α}

theorem eqGuard_skip {op : BinOp} {t : TypeId} {x y : Operand} {a b : Value} (h1 : ¬ (a = .nilIface ∧ b = .nilIface)) (h2 : ∀ xs ys, ¬ (a = .agg xs ∧ b = .agg ys)) : (eqGuard op t x y a b).run P w = .ok () w := by
  cases op <;> simp only [eqGuard, Bool.not_true, Bool.not_false, if_true, Bool.false_eq_true, if_false, Sem.run_pure] <;>
  first
  | rfl
  | (cases a <;> cases b <;> first | rfl | (exact absurd ⟨rfl, rfl⟩ h1) | exact absurd ⟨rfl, rfl⟩ (h2 _ _))

theorem shift_sound {op : BinOp} {t : TypeId} {ox oy : Operand} {x y : AV} {x' y' : Value} {f : AV → Option α} (h : aShift op x y f = some r) (hx : VR ι s w x x') (hy : VR ι s w y y') :
    ∃ v v', f v = some r ∧ (do eqGuard op t ox oy x' y'; binOp op t x' y' : Sem Value).run P w = .ok v' w ∧ VR ι s w v v' := by
  unfold aShift at h
  split at h
  · rename_i k a k' b
    cases hx
    cases hy
    split at h
    · cases h
    · rename_i hb
      split at h
      · exact ⟨_, _, h, by rw [Sem.run_bind, eqGuard_skip (by simp) (by simp)]; simp [binOp, Op.shift, hb], .int _ _⟩
      · exact ⟨_, _, h, by rw [Sem.run_bind, eqGuard_skip (by simp) (by simp)]; simp [binOp, Op.shift, hb], .int _ _⟩
      · cases h
  · cases h

theorem bin_sound {op : BinOp} {t : TypeId} {ox oy : Operand} {x y : AV} {x' y' : Value} {f : AV → Option α} (h : aBin op x y f = some r) (hop : op ≠ .shl ∧ op ≠ .shr) (hx : VR ι s w x x') (hy : VR ι s w y y') :
    ∃ v v', f v = some r ∧ (do eqGuard op t ox oy x' y'; binOp op t x' y' : Sem Value).run P w = .ok v' w ∧ VR ι s w v v' := by
  unfold aBin at h
  split at h
  · rename_i k a k' b
    cases hx
    cases hy
    split at h
    · rename_i hk
      subst hk
      split at h
      · rename_i v hv
        rw [Sem.run_bind, eqGuard_skip (by simp) (by simp)]
        simp only [Result.andThen_ok]
        cases op <;> simp only [intBin] at hv <;> first | (exact absurd rfl hop.1) | (exact absurd rfl hop.2) | skip
        all_goals first
          | (obtain rfl := Option.some.inj hv; refine ⟨_, _, h, ?_, .int _ _⟩; simp only [binOp, ne_eq, not_true_eq_false, if_false, Op.intArith, Op.intBits, Op.intCmp]; rfl)
          | (obtain rfl := Option.some.inj hv; refine ⟨_, _, h, ?_, .bool _⟩; simp only [binOp, ne_eq, not_true_eq_false, if_false, Op.intArith, Op.intBits, Op.intCmp]; rfl)
          | (split at hv
             · cases hv
             · rename_i hb0
               obtain rfl := Option.some.inj hv
               refine ⟨_, _, h, ?_, .int _ _⟩
               simp only [binOp, ne_eq, not_true_eq_false, if_false, Op.intDiv, hb0]
               rfl)
      · cases h
    · cases h
  · rename_i a b
    cases hx
    cases hy
    split at h
    · rename_i v hv
      rw [Sem.run_bind, eqGuard_skip (by simp) (by simp)]
      simp only [Result.andThen_ok]
      cases op <;> simp only [strBin] at hv <;> first | (cases hv; done) | skip
      all_goals first
        | (obtain rfl := Option.some.inj hv; exact ⟨_, _, h, rfl, .bool _⟩)
        | (split at hv
           · rename_i hb0
             obtain rfl := Option.some.inj hv
             have hmax : IntKind.i64.max = 9223372036854775807 := by decide
             have hb1 : ¬ ((a.size + b.size : Nat) : Int) > IntKind.i64.max := by rw [hmax]; omega
             exact ⟨_, _, h, by simp only [binOp, Op.stringOp, if_neg hb1]; rfl, .str _⟩
           · cases hv)
    · cases h
  · cases h

theorem binop_eql {t : TypeId} {x' y' : Value} {b : Bool} (h : (Op.equal t x' y').run P w = .ok b w) (hn : ∀ k a k' b, ¬ (x' = .int k a ∧ y' = .int k' b)) (hs : ∀ a b, ¬ (x' = .string a ∧ y' = .string b)) (hf : ∀ k a k' b, ¬ (x' = .float k a ∧ y' = .float k' b)) (hc : ∀ k a a2 k' b b2, ¬ (x' = .complex k a a2 ∧ y' = .complex k' b b2)) :
    (binOp .eql t x' y').run P w = .ok (.bool b) w ∧ (binOp .neq t x' y').run P w = .ok (.bool (!b)) w := by
  constructor <;> unfold binOp <;> split <;> first
    | (rename_i h1 h2 h3; exact absurd ⟨rfl, rfl⟩ (hn _ _ _ _))
    | (exact absurd ⟨rfl, rfl⟩ (hn _ _ _ _))
    | (exact absurd ⟨rfl, rfl⟩ (hs _ _))
    | (exact absurd ⟨rfl, rfl⟩ (hf _ _ _ _))
    | (exact absurd ⟨rfl, rfl⟩ (hc _ _ _ _ _ _))
    | (simp [h]; done)
    | simp_all

theorem eq_sound {e : EK} {t : TypeId} {op : BinOp} {ox oy : Operand} {x y : AV} {x' y' : Value} {f : Bool → Option α} (he : ekOf P t = some e) (h : aEq e x y f = some r) (hx : VR ι s w x x') (hy : VR ι s w y y') :
    ∃ b, f b = some r ∧ (do eqGuard op t ox oy x' y'; binOp .eql t x' y' : Sem Value).run P w = .ok (.bool b) w ∧ (do eqGuard op t ox oy x' y'; binOp .neq t x' y' : Sem Value).run P w = .ok (.bool (!b)) w := by
  have plain : ∀ b, (Op.equal t x' y').run P w = .ok b w → (∀ k a k' b, ¬ (x' = .int k a ∧ y' = .int k' b)) → (∀ a b, ¬ (x' = .string a ∧ y' = .string b)) → (∀ k a k' b, ¬ (x' = .float k a ∧ y' = .float k' b)) → (∀ k a a2 k' b b2, ¬ (x' = .complex k a a2 ∧ y' = .complex k' b b2)) →
      ¬ (x' = .nilIface ∧ y' = .nilIface) → (∀ xs ys, ¬ (x' = .agg xs ∧ y' = .agg ys)) →
      (do eqGuard op t ox oy x' y'; binOp .eql t x' y' : Sem Value).run P w = .ok (.bool b) w ∧ (do eqGuard op t ox oy x' y'; binOp .neq t x' y' : Sem Value).run P w = .ok (.bool (!b)) w := by
    intro b hb h1 h2 h3 h4 h5 h6
    obtain ⟨k1, k2⟩ := binop_eql hb h1 h2 h3 h4
    rw [Sem.run_bind, Sem.run_bind, eqGuard_skip h5 h6]
    exact ⟨k1, k2⟩
  unfold aEq at h
  split at h
  case h_16 =>
    rename_i fs xs ys
    split at h
    · rename_i b hb
      cases hx with
      | agg hx1 hx2 hx3 =>
        rename_i xs'
        cases hy with
        | agg hy1 hy2 hy3 =>
          rename_i ys'
          unfold ekOf at he
          split at he <;> try (cases he; done)
          rename_i fl hu
          split at he
          · rename_i hcond
            obtain ⟨ks, hks, hke⟩ := Option.map_eq_some_iff.1 he
            injection hke with hke
            subst hke
            have hff : P.fieldsOf t = fl := by simp [Program.fieldsOf, hu]
            have get : ∀ {vs : List AV} {vs' : Array Value}, vs.length = vs'.size → (∀ (i : Nat) x y, vs[i]? = some x → vs'[i]? = some y → VR ι s w x y) → ∀ (j : Nat) x, vs[j]? = some x → ∃ x', vs'[0 + j]? = some x' ∧ VR ι s w x x' := by
              intro vs vs' hl hv j x hj
              have hjl := (List.getElem?_eq_some_iff.1 hj).1
              have : vs'[j]? = some (vs'[j]'(by omega)) := Array.getElem?_eq_getElem (by omega)
              exact ⟨_, by rw [Nat.zero_add]; exact this, hv j x _ hj this⟩
            have hrun := eqFields_sound 4 (xs' := xs') (ys' := ys') 9998 (by decide) hks hb (get hx1 hx2) (get hy1 hy2)
            have heq : (Op.equalIn 10000 t (.agg xs') (.agg ys')).run P w = .ok b w := by
              rw [run_equalIn_struct w 9999 t xs' ys' (by rw [hff]; exact hu) hcond.1, hff]; exact hrun
            refine ⟨b, h, ?_, ?_⟩
            · rw [Sem.run_bind, run_eqGuard_agg w op t ox oy xs' ys' hcond.2]
              simp only [Result.andThen_ok, run_eql_struct, heq]
            · rw [Sem.run_bind, run_eqGuard_agg w op t ox oy xs' ys' hcond.2]
              simp only [Result.andThen_ok, run_neq_struct, heq]
          · cases he
    · cases h
  case h_17 => cases h
  all_goals
    (unfold ekOf at he
     split at he <;> try (cases he; done)
     case h_9 =>
       split at he
       · obtain ⟨_, _, hz⟩ := Option.map_eq_some_iff.1 he
         cases hz
       · cases he
     rename_i hu
     cases hx
     cases hy
     refine ⟨_, h, ?_⟩
     refine plain _ ?_ (by simp) (by simp) (by simp) (by simp) (by simp) (by simp)
     show (Op.equalIn (9999 + 1) t _ _).run P w = _
     generalize 9999 = d
     simp only [Op.equalIn, Sem.run_bind, run_underlying hu, Result.andThen_ok]
     rfl)
end
end Go.Proofs.Ytkfdgegmahbkiaa.Sim
namespace Go.Proofs.Ytkfdgegmahbkiaa.Sim
open Go.RowKit (Below)
set_option linter.unusedSimpArgs false
section
variable {P : Program} {call : CallA} {B : Nat} {w0 : World} {ι : Nat → Loc} {s : Store} {w : World} {α : Type} {r : α} {κ : AV → Store → Option α}

theorem un_sound {op : UnOp} {x : AV} {x' : Value} {f : AV → Option α} (h : aUn op x f = some r) (hx : VR ι s w x x') : ∃ v v', f v = some r ∧ (Op.unary op x').run P w = .ok v' w ∧ VR ι s w v v' := by
  unfold aUn at h
  split at h
  · cases hx; exact ⟨_, _, h, rfl, .int _ _⟩
  · cases hx; exact ⟨_, _, h, rfl, .int _ _⟩
  · cases hx; exact ⟨_, _, h, rfl, .bool _⟩
  · cases h

theorem fieldAddr_sound {t : TypeId} {fs : Array Field} {i n : Nat} {fl : Field} {x : AV} {x' : Value} {f : AV → Option α} (hu : P.underlying t = some (.struct fs)) (hf : fs[i]? = some fl) (hn : szOf P fl.type = some n) (h0 : 0 < n) (h : aFieldAddr fl.offset x f = some r) (hx : VR ι s w x x') :
    ∃ v v', f v = some r ∧ (Instr.fieldAt t x' i).run P w = .ok v' w ∧ VR ι s w v v' := by
  cases x with
  | ptr l off ep =>
    cases hx with
    | ptr hl hle ha =>
      rename_i a
      refine ⟨_, .pointer (some (a.add fl.offset)), h, ?_, .ptr hl hle (fun e => ?_)⟩
      · simp only [Instr.fieldAt, Sem.run_bind, run_underlying hu, Result.andThen_ok, hf, Instr.sureAddr, Sem.run_pure, fieldPlace, run_size hn, Sem.run_ite, if_neg (show ¬ n = 0 by omega)]
      · obtain ⟨h1, h2⟩ := ha e
        exact ⟨by omega, by rw [h2, add_mk]; congr 1; omega⟩
  | _ => simp [aFieldAddr] at h

theorem part_one {t : TypeId} {off : Nat} {vs : List AV} {vs' : Array Value} {f : AV → Option α} (ha : aggOf P t = some false) (h : (match vs[off]? with | some v => f v | Option.none => none) = some r) (hl : vs.length = vs'.size) (hv : ∀ (i : Nat) x y, vs[i]? = some x → vs'[i]? = some y → VR ι s w x y) :
    ∃ v v', f v = some r ∧ (part t vs' off).run P w = .ok v' w ∧ VR ι s w v v' := by
  split at h
  · rename_i v hv0
    have hj := (List.getElem?_eq_some_iff.1 hv0).1
    have h2 : vs'[off]? = some (vs'[off]'(by omega)) := Array.getElem?_eq_getElem (by omega)
    refine ⟨v, _, h, ?_, hv off v _ hv0 h2⟩
    simp [part, run_agg ha, h2]
  · cases h

theorem field_sound {t : TypeId} {fs : Array Field} {i : Nat} {fl : Field} {x : AV} {x' : Value} {f : AV → Option α} (hu : P.underlying t = some (.struct fs)) (hf : fs[i]? = some fl)
    (h : (match aggOf P fl.type, szOf P fl.type with | some true, some n => aFieldN fl.offset n x f | some false, _ => aField1 fl.offset x f | _, _ => none) = some r) (hx : VR ι s w x x') :
    ∃ v v', f v = some r ∧ (Instr.field t x' i).run P w = .ok v' w ∧ VR ι s w v v' := by
  split at h
  · rename_i n hag hn
    cases x with
    | agg vs =>
      cases hx with
      | agg h1 h2 h3 =>
        rename_i vs'
        have hvs : VRs ι s w vs vs'.toList := ⟨by simpa using h1, fun i x y hx hy => h2 i x y hx (by simpa using hy)⟩
        have := (hvs.drop fl.offset).take n
        refine ⟨_, .agg (vs'.extract fl.offset (fl.offset + n)), h, ?_, ?_⟩
        · simp [Instr.field, run_underlying hu, hf, asAgg, part, run_agg hag, run_size hn]
        · have e : (vs'.extract fl.offset (fl.offset + n)) = ((vs'.toList.drop fl.offset).take n).toArray := by
            apply Array.ext'
            simp [List.extract_eq_take_drop]
          rw [e]
          exact this.agg (fun y hy => h3 y (List.mem_of_mem_drop (List.mem_of_mem_take hy)))
    | _ => simp [aFieldN] at h
  · rename_i hag
    cases x with
    | agg vs =>
      cases hx with
      | agg h1 h2 h3 =>
        obtain ⟨v, v', k1, k2, k3⟩ := part_one hag h h1 h2
        exact ⟨v, v', k1, by simp [Instr.field, run_underlying hu, hf, asAgg, k2], k3⟩
    | _ => simp [aField1] at h
  · cases h

theorem indexAgg_sound {t e : TypeId} {len c : Nat} {b : Bool} {x i : AV} {x' i' : Value} {f : AV → Option α} (hu : P.underlying t = some (.array len e)) (hb : aggOf P e = some b) (hc : szOf P e = some c) (h : aIndexAgg b len c x i f = some r) (hx : VR ι s w x x') (hi : VR ι s w i i') :
    ∃ v v', f v = some r ∧ (Instr.index t x' i').run P w = .ok v' w ∧ VR ι s w v v' := by
  unfold aIndexAgg at h
  split at h
  · rename_i k j
    cases hi
    split at h
    · rename_i h0
      split at h
      · rename_i h1
        cases x with
        | agg vs =>
          cases hx with
          | agg g1 g2 g3 =>
            rename_i vs'
            split at h
            · rename_i hbt
              subst hbt
              have hvs : VRs ι s w vs vs'.toList := ⟨by simpa using g1, fun i x y hx hy => g2 i x y hx (by simpa using hy)⟩
              have := (hvs.drop (j.toNat * c)).take c
              refine ⟨_, .agg (vs'.extract (j.toNat * c) (j.toNat * c + c)), h, ?_, ?_⟩
              · simp [Instr.index, asIntOf, run_underlying hu, h0, h1, part, run_agg hb, run_size hc]
              · have e : (vs'.extract (j.toNat * c) (j.toNat * c + c)) = ((vs'.toList.drop (j.toNat * c)).take c).toArray := by
                  apply Array.ext'
                  simp [List.extract_eq_take_drop]
                rw [e]
                exact this.agg (fun y hy => g3 y (List.mem_of_mem_drop (List.mem_of_mem_take hy)))
            · rename_i hbt
              have hbf : b = false := by simpa using hbt
              subst hbf
              obtain ⟨v, v', k1, k2, k3⟩ := part_one hb h g1 g2
              exact ⟨v, v', k1, by simp [Instr.index, asIntOf, run_underlying hu, h0, h1, run_size hc, k2], k3⟩
        | _ => cases b <;> simp [aFieldN, aField1] at h
      · cases h
    · cases h
  · cases h

theorem indexSl_sound {t e : TypeId} {c : Nat} {x i : AV} {x' i' : Value} {f : AV → Option α} (hu : P.underlying t = some (.slice e)) (hc : szOf P e = some c) (h : aIndexSl c x i f = some r) (hx : VR ι s w x x') (hi : VR ι s w i i') :
    ∃ v v', f v = some r ∧ (Instr.indexAt t x' i').run P w = .ok v' w ∧ VR ι s w v v' := by
  unfold aIndexSl at h
  split at h
  · rename_i l off n es' ep k j
    split at h
    · rename_i he
      subst he
      split at h
      · rename_i h0
        split at h
        · rename_i hlt
          cases hx with
          | sl hl hle ha hcap hr =>
            rename_i a cap
            cases hi
            refine ⟨_, .pointer (some (a.add (j.toNat * es'))), h, ?_, .ptr hl hle (fun e => ?_)⟩
            · simp only [Instr.indexAt, asIntOf, Sem.run_bind, Sem.run_pure, Result.andThen_ok, run_underlying hu, Sem.run_ite, if_pos (show 0 ≤ j ∧ j < (n : Int) from ⟨h0, hlt⟩), run_size hc]
            · obtain ⟨h1, h2⟩ := ha e
              obtain ⟨h3, _, _⟩ := h2 (by omega)
              exact ⟨by omega, by rw [h3, add_mk]; congr 1; omega⟩
        · cases h
      · cases h
    · cases h
  · cases h

theorem indexArr_sound {t e : TypeId} {len c : Nat} {x i : AV} {x' i' : Value} {f : AV → Option α} (hu : P.underlying t = some (.array len e)) (hc : szOf P e = some c) (h : aIndexArr len c x i f = some r) (hx : VR ι s w x x') (hi : VR ι s w i i') :
    ∃ v v', f v = some r ∧ (Instr.indexAt t x' i').run P w = .ok v' w ∧ VR ι s w v v' := by
  unfold aIndexArr at h
  split at h
  · rename_i l off ep k j
    split at h
    · rename_i h0
      split at h
      · rename_i hlt
        cases hx with
        | ptr hl hle ha =>
          rename_i a
          cases hi
          refine ⟨_, .pointer (some (a.add (j.toNat * c))), h, ?_, .ptr hl hle (fun e => ?_)⟩
          · simp only [Instr.indexAt, asIntOf, Sem.run_bind, Sem.run_pure, Result.andThen_ok, run_underlying hu, Instr.sureAddr, Sem.run_ite, if_pos (show 0 ≤ j ∧ j < (len : Int) from ⟨h0, hlt⟩), run_size hc]
          · obtain ⟨h1, h2⟩ := ha e
            exact ⟨by omega, by rw [h2, add_mk]; congr 1; omega⟩
      · cases h
    · cases h
  · cases h

theorem indexStr_sound {t : TypeId} {x i : AV} {x' i' : Value} {f : AV → Option α} (hu : P.underlying t = some .string) (h : aIndexStr x i f = some r) (hx : VR ι s w x x') (hi : VR ι s w i i') :
    ∃ v v', f v = some r ∧ (Instr.index t x' i').run P w = .ok v' w ∧ VR ι s w v v' := by
  unfold aIndexStr at h
  split at h
  · rename_i b k j
    split at h
    · rename_i h0
      split at h
      · rename_i hlt
        cases hx
        cases hi
        refine ⟨_, _, h, ?_, .int _ _⟩
        have : b[j.toNat]? = some (b[j.toNat]'hlt) := getElem?_pos b j.toNat hlt
        simp [Instr.index, asIntOf, run_underlying hu, h0, this]
      · cases h
    · cases h
  · cases h

theorem conv_int_sound {src dst : TypeId} {ks k : IntKind} {x : AV} {x' : Value} {f : AV → Option α} (hs : P.underlying src = some (.int ks)) (hd : P.underlying dst = some (.int k)) (h : aConvInt k x f = some r) (hx : VR ι s w x x') :
    ∃ v v', f v = some r ∧ (convert src dst x').run P w = .ok v' w ∧ VR ι s w v v' := by
  unfold aConvInt at h
  split at h
  · cases hx
    exact ⟨_, _, h, by simp [convert, run_underlying hs, run_underlying hd, Conv.intToInt], .int _ _⟩
  · cases h

theorem conv_str_sound {src dst : TypeId} {x : AV} {x' : Value} {f : ByteArray → Option α} (hs : P.underlying src = some .string) (hd : P.underlying dst = some .string) (h : aStr x f = some r) (hx : VR ι s w x x') :
    ∃ b, f b = some r ∧ (convert src dst x').run P w = .ok (.string b) w := by
  unfold aStr at h
  split at h
  · cases hx
    exact ⟨_, h, by simp [convert, run_underlying hs, run_underlying hd]⟩
  · cases h

theorem bytesOf_sound {src dst e : TypeId} {x : AV} {x' : Value} (hs : P.underlying src = some .string) (hd : P.underlying dst = some (.slice e)) (he : P.underlying e = some (.int .u8)) (h : aBytesOf x s κ = some r) (hx : VR ι s w x x') (hW : WR B w0 ι s w) :
    Done P call B w0 ι s w (convert src dst x' >>= fun a => pure (.value a)) κ r := by
  unfold aBytesOf at h
  cases x with
  | str b =>
    cases hx
    have hrun := run_bytes_of_string (P := P) w src dst e b hs hd he
    generalize hcap : grownCap w b.size 0 e = cap at hrun
    have hW2 := hW.draw (w' := w.drew) rfl rfl rfl rfl
    have hlen : (b.data.toList.map fun c => AV.int .u8 c.toNat).length = b.size := by simp
    have htl : (bytesRow b cap).toList.take b.size = b.data.toList.map fun c => Value.int .u8 c.toNat := by
      unfold bytesRow
      rw [Array.toList_append, List.take_append_of_le_length (by simp), Array.toList_map]
      exact List.take_of_length_le (by simp)
    have hsz : (bytesRow b cap).size = b.size + (cap - b.size) := by simp [bytesRow]
    have hb1 : ∀ y ∈ (bytesRow b cap).toList.take b.size, y.oneCell' = true := by
      rw [htl]; intro y hy; obtain ⟨c, _, rfl⟩ := List.mem_map.1 hy; rfl
    obtain ⟨ι', h5, h6, h7⟩ := push_cells hW2.1 (cs := b.data.toList.map fun c => AV.int .u8 c.toNat) (c := bytesRow b cap) e ((bytesRow b cap).size, (bytesRow b cap).size + 1) true
      (w' := w.drew.alloc (.cells (bytesRow b cap) e ((bytesRow b cap).size, (bytesRow b cap).size + 1))) rfl rfl rfl rfl (by
        rw [hlen, htl]
        refine ⟨by simp, fun i x y hx hy => ?_⟩
        rw [List.getElem?_map] at hx hy
        cases hd : b.data.toList[i]? with
        | none => rw [hd] at hx; cases hx
        | some c =>
          rw [hd] at hx hy
          simp only [Option.map_some, Option.some.injEq] at hx hy
          subst hx; subst hy; exact .int _ _) (by rw [hlen]; exact hb1) (by simp)
    have hcap1 : b.size ≤ cap := by
      rw [← hcap]; exact grownCap_ge _ _ _ _
    exact .v h hrun (new_sl h7 (c := bytesRow b cap) rfl (by rw [hlen]) hcap1 (by omega) (by omega)) h5 (hW2.2.trans h6)
  | _ => simp [aStr] at h

theorem runes_one (b : ByteArray) : ∀ (n i : Nat) (acc : Array Value), (∀ y ∈ acc.toList, y.oneCell' = true) → ∀ y ∈ (Conv.runesFrom b n i acc).toList, y.oneCell' = true
  | 0, _, acc, h => by simpa [Conv.runesFrom] using h
  | n + 1, i, acc, h => by
    unfold Conv.runesFrom
    split
    · refine runes_one b n _ _ fun y hy => ?_
      rw [Array.toList_push, List.mem_append, List.mem_singleton] at hy
      rcases hy with hy | rfl
      · exact h y hy
      · rfl
    · exact h
theorem runesOf_sound {src dst e : TypeId} {x : AV} {x' : Value} (hs : P.underlying src = some .string) (hd : P.underlying dst = some (.slice e)) (he : P.underlying e = some (.int .i32)) (h : aRunesOf x s κ = some r) (hx : VR ι s w x x') (hW : WR B w0 ι s w) :
    Done P call B w0 ι s w (convert src dst x' >>= fun a => pure (.value a)) κ r := by
  unfold aRunesOf at h
  cases x with
  | str b =>
    cases hx
    simp only [aStr] at h
    split at h
    · rename_i h46
      have hrun := run_runes_of_string (P := P) w src dst e b hs hd he h46
      have hone := runes_one b b.size 0 #[] (by simp)
      generalize Conv.runesFrom b b.size 0 #[] = R at h hrun hone h46
      generalize hcap : grownCap w R.size 0 e = cap at hrun
      have hW2 := hW.draw (w' := w.drew) rfl rfl rfl rfl
      have hlen : (R.toList.map ofVal).length = R.size := by simp
      have htl : (R ++ Array.replicate (cap - R.size) (Value.int .i32 0)).toList.take R.size = R.toList := by
        rw [Array.toList_append, List.take_append_of_le_length (by simp)]
        exact List.take_of_length_le (by simp)
      have hsz : (R ++ Array.replicate (cap - R.size) (Value.int .i32 0)).size = R.size + (cap - R.size) := by simp
      obtain ⟨ι', h5, h6, h7⟩ := push_cells hW2.1 (cs := R.toList.map ofVal) (c := R ++ Array.replicate (cap - R.size) (Value.int .i32 0)) e (0, 0) false
        (w' := w.drew.alloc (.cells (R ++ Array.replicate (cap - R.size) (Value.int .i32 0)) e)) rfl rfl rfl rfl (by rw [hlen, htl]; exact vrs_ofVal _ _ _ _) (by rw [hlen, htl]; exact hone) (fun _ => rfl)
      have hcap1 : R.size ≤ cap := by
        rw [← hcap]; exact grownCap_ge _ _ _ _
      exact .v h hrun (new_sl h7 (c := R ++ Array.replicate (cap - R.size) (Value.int .i32 0)) rfl (by rw [hlen]) hcap1 (by omega) (by omega)) h5 (hW2.2.trans h6)
    · cases h
  | _ => simp [aStr] at h

theorem bytesAt_sound : ∀ {xs : List AV} {b : List UInt8} {ys : List Value}, bytesAt xs = some b → VRs ι s w xs ys → ∃ ns : List Int, ys = ns.map (Value.int .u8) ∧ ns.foldl (fun r n => r.push (UInt8.ofNat n.toNat)) ByteArray.empty = ⟨b.toArray⟩ := by
  have key : ∀ {xs : List AV} {b : List UInt8} {ys : List Value}, bytesAt xs = some b → VRs ι s w xs ys → ∃ ns : List Int, ys = ns.map (Value.int .u8) ∧ ∀ r : ByteArray, ns.foldl (fun r n => r.push (UInt8.ofNat n.toNat)) r = ⟨r.data ++ b.toArray⟩ := by
    intro xs
    induction xs with
    | nil =>
      intro b ys h hv
      obtain rfl := Option.some.inj h
      have : ys = [] := List.length_eq_zero_iff.1 hv.1.symm
      exact ⟨[], by simp [this], fun r => by simp⟩
    | cons x xs ih =>
      intro b ys h hv
      unfold bytesAt at h
      split at h
      · rename_i h0; cases h0
      · rename_i n rest h0
        injection h0 with h1 h2
        subst h1; subst h2
        obtain ⟨b1, hb1, rfl⟩ := Option.map_eq_some_iff.1 h
        cases ys with
        | nil => have := hv.1; simp at this
        | cons y ys =>
          obtain ⟨ns, e, hf⟩ := ih hb1 (by simpa using hv.drop 1)
          have hy := hv.2 0 _ _ rfl rfl
          cases hy
          refine ⟨n :: ns, by simp [e], fun r => ?_⟩
          rw [List.foldl_cons, hf]
          simp [ByteArray.push]
      · cases h
  intro xs b ys h hv
  obtain ⟨ns, h1, h2⟩ := key h hv
  exact ⟨ns, h1, by rw [h2]; simp⟩

theorem strOf_sound {src dst e : TypeId} {x : AV} {x' : Value} {f : AV → Option α} (hs : P.underlying src = some (.slice e)) (he : P.underlying e = some (.int .u8)) (hd : P.underlying dst = some .string) (h : aStrOf x s f = some r) (hx : VR ι s w x x') (hW : WR B w0 ι s w) :
    ∃ v v', f v = some r ∧ (convert src dst x').run P w = .ok v' w ∧ VR ι s w v v' := by
  unfold aStrOf at h
  split at h
  · cases hx
    exact ⟨_, _, h, by rw [run_convert_bytes_string w src dst e none 0 0 hs he hd]; rfl, .str _⟩
  · rename_i l off n es ep
    obtain ⟨xs, ro, hg, hep, h⟩ := row_of h
    split at h
    · rename_i hn
      split at h
      · rename_i b hb
        cases hx with
        | sl hl hle ha hc hr =>
          rename_i a cap
          obtain ⟨h1, h2⟩ := ha (by rw [hg]; show _ + 1 = _ + 1; omega)
          obtain ⟨ys, k1, k2, k3, k4⟩ := cells_at hW hl hg off n hn h1
          obtain ⟨ns, rfl, hf⟩ := bytesAt_sound hb k2
          refine ⟨_, _, h, ?_, .str _⟩
          have hload : (loadCells a n).run P w = .ok (ns.map (Value.int .u8)).toArray w := by
            by_cases h0 : 0 < cap
            · obtain ⟨h3, _, _⟩ := h2 h0
              rw [h3, ← k1]
              exact run_loadCells_list (P := P) w _ _ k4
            · have : n = 0 := by omega
              subst this
              have : ns.map (Value.int .u8) = [] := List.length_eq_zero_iff.1 k1
              rw [this]
              simp [loadCells, loadCellsFrom]
          rw [run_convert_bytes_string w src dst e (some a) n cap hs he hd, run_bytesToString w a n cap ns hload, hf]
      · cases h
    · cases h
  · cases h

theorem extract_sound {i : Nat} {x : AV} {x' : Value} {f : AV → Option α} (h : aExtract i x f = some r) (hx : VR ι s w x x') : ∃ v v', f v = some r ∧ (Instr.extract x' i).run P w = .ok v' w ∧ VR ι s w v v' := by
  unfold aExtract at h
  split at h
  · cases hx with
    | tuple h1 h2 =>
      rename_i vs vs'
      split at h
      · rename_i v hv
        have hj := (List.getElem?_eq_some_iff.1 hv).1
        have h3 : vs'[i]? = some (vs'[i]'(by omega)) := Array.getElem?_eq_getElem (by omega)
        exact ⟨v, _, h, by simp [Instr.extract, h3], h2 i v _ hv h3⟩
      · cases h
  · cases h
end
end Go.Proofs.Ytkfdgegmahbkiaa.Sim
