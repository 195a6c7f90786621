/- The abstract machine is sound: each operation. Plain lemmas. No condition. -/
import Derived.Test.YtjbgdpfkmcibbaaGreatDoorSimF
import Derived.Laws.StructEq
namespace Go.Proofs.YtjbgdpfkmcibbaaGreatDoor.Sim
open Go.RowKit (Below)

/-- What an operation's run comes to: a value, or a call. -/
def Done {α : Type} (P : Program) (call : CallA) (B : Nat) (w0 : World) (ι : Nat → Loc) (s : Store) (w : World) (m : Sem Next) (κ : AV → Store → Option α) (r : α) : Prop :=
  (∃ v s' nx v' w' ι', κ v s' = some r ∧ m.run P w = .ok nx w' ∧ (nx = .value v' ∨ (nx = .skip ∧ v' = undef)) ∧ VR ι' s' w' v v' ∧ WR B w0 ι' s' w' ∧ Later ι s w ι' s' w') ∨
  (∃ g args args' v s', m.run P w = .ok (.enter g args') w ∧ VRs ι s w args args'.toList ∧ call g args s = some (v, s') ∧ κ v s' = some r)

section
variable {P : Program} {call : CallA} {B : Nat} {w0 : World} {ι : Nat → Loc} {s : Store} {w : World} {α : Type} {r : α} {κ : AV → Store → Option α}

theorem Done.v {m : Sem Value} {v : AV} {s' : Store} {v' : Value} {w' : World} {ι' : Nat → Loc} (hk : κ v s' = some r) (hr : m.run P w = .ok v' w') (hv : VR ι' s' w' v v') (hW : WR B w0 ι' s' w') (hL : Later ι s w ι' s' w') :
    Done P call B w0 ι s w (m >>= fun a => pure (.value a)) κ r :=
  .inl ⟨v, s', _, v', w', ι', hk, by rw [Sem.run_bind, hr]; rfl, .inl rfl, hv, hW, hL⟩
theorem Done.v0 {m : Sem Value} {v : AV} {v' : Value} (hW : WR B w0 ι s w) (hk : κ v s = some r) (hr : m.run P w = .ok v' w) (hv : VR ι s w v v') : Done P call B w0 ι s w (m >>= fun a => pure (.value a)) κ r :=
  .v hk hr hv hW (Later.refl _ _ _)
theorem Done.u {m : Sem Unit} {s' : Store} {w' : World} {ι' : Nat → Loc} (hk : κ (.tuple []) s' = some r) (hr : m.run P w = .ok () w') (hW : WR B w0 ι' s' w') (hL : Later ι s w ι' s' w') :
    Done P call B w0 ι s w (m >>= fun _ => pure .skip) κ r :=
  .inl ⟨.tuple [], s', _, undef, w', ι', hk, by rw [Sem.run_bind, hr]; rfl, .inr ⟨rfl, rfl⟩, .tuple rfl (fun i x y hx => by simp at hx), hW, hL⟩

theorem ofVal_sound (ι : Nat → Loc) (s : Store) (w : World) (v : Value) : VR ι s w (ofVal v) v := by
  unfold ofVal
  split <;> first | exact .bool _ | exact .int _ _ | exact .str _ | exact .nilptr | exact .nilsl | exact .nilmap | exact .nilfunc | exact .nilif | exact .junk _

theorem vrs_ofVal (ι : Nat → Loc) (s : Store) (w : World) (vs : List Value) : VRs ι s w (vs.map ofVal) vs :=
  ⟨by simp, fun i x y hx hy => by rw [List.getElem?_map, hy] at hx; simp only [Option.map_some, Option.some.injEq] at hx; subst hx; exact ofVal_sound _ _ _ _⟩

theorem zeros_of {t : TypeId} {zs : List AV} (h : zerosOf P t = some zs) : ∃ i z, P.info? t = some i ∧ i.zero = some z ∧ zs = z.cells.toList.map ofVal ∧ ∀ y ∈ z.cells.toList, y.oneCell' = true := by
  unfold zerosOf at h
  cases hi : P.info? t with
  | none => rw [hi] at h; simp at h
  | some i =>
    rw [hi] at h
    simp only [Option.bind_some] at h
    cases hz : i.zero with
    | none => rw [hz] at h; simp at h
    | some z =>
      rw [hz] at h
      simp only [Option.bind_some] at h
      split at h
      · rename_i hone
        refine ⟨i, z, rfl, hz, by simpa using h.symm, fun y hy => ?_⟩
        have := List.all_eq_true.1 hone y hy
        cases y <;> simp_all [Value.oneCell']
      · cases h

theorem run_zero {t : TypeId} {i : TypeInfo} {z : Value} (hi : P.info? t = some i) (hz : i.zero = some z) (w : World) : (zeroValue t).run P w = .ok z w := by
  simp [zeroValue, Go.run_typeInfo _ hi, hz]

theorem size_of {t : TypeId} {n : Nat} (h : szOf P t = some n) : ∃ i, P.info? t = some i ∧ i.size = n := by
  unfold szOf at h
  cases hi : P.info? t with
  | none => rw [hi] at h; cases h
  | some i => rw [hi] at h; exact ⟨i, rfl, by simpa using h⟩

theorem run_size {t : TypeId} {n : Nat} (h : szOf P t = some n) (w : World) : (sizeOf t).run P w = .ok n w := by
  obtain ⟨i, hi, rfl⟩ := size_of h
  simp [sizeOf, Go.run_typeInfo _ hi]

theorem run_agg {t : TypeId} {b : Bool} (h : aggOf P t = some b) (w : World) : (isAgg t).run P w = .ok b w := by
  unfold aggOf at h
  split at h
  · rename_i hu; obtain rfl := Option.some.inj h; simp [isAgg, run_underlying hu]
  · rename_i hu; obtain rfl := Option.some.inj h; simp [isAgg, run_underlying hu]
  · rename_i h1 h2 hu
    obtain rfl := Option.some.inj h
    rename_i d
    cases d <;> first | exact (h1 _ rfl).elim | exact (h2 _ _ rfl).elim | simp [isAgg, run_underlying hu]
  · cases h

/-- A new row. -/
theorem new_sound {cs : List AV} {vs : Array Value} (ty : TypeId) (h : aNew cs s κ = some r) (hc : VRs ι s w cs vs.toList) (h1 : ∀ y ∈ vs.toList, y.oneCell' = true) (hW : WR B w0 ι s w) :
    Done P call B w0 ι s w ((newRow ty vs >>= fun a => pure (Value.pointer (some a))) >>= fun a => pure (.value a)) κ r := by
  have e : vs.toList.take cs.length = vs.toList := List.take_of_length_le (by rw [hc.1]; exact Nat.le_refl _)
  obtain ⟨ι', h5, h6, h7⟩ := push_cells hW (cs := cs) (c := vs) ty (0, 0) false (w' := w.alloc (.cells vs ty)) rfl rfl rfl rfl (by rw [e]; exact hc) (by rw [e]; exact h1) (fun _ => rfl)
  exact .v h (by simp [newRow]) (new_ptr h7) h5 h6

theorem load_sound {t : TypeId} {p : AV} {p' : Value} (h : (match aggOf P t, szOf P t with | some true, some n => aLoadN n p s fun v => κ v s | some false, _ => aLoad1 p s fun v => κ v s | _, _ => none) = some r) (hp : VR ι s w p p') (hW : WR B w0 ι s w) :
    ∃ v v', κ v s = some r ∧ (Instr.loadAt t p').run P w = .ok v' w ∧ VR ι s w v v' := by
  split at h
  · rename_i n ha hn
    obtain ⟨a, vs, ys, rfl, hk, hrun, hv, h1⟩ := loadN_sound (P := P) h hp hW
    refine ⟨_, _, hk, ?_, hv.agg h1⟩
    simp [Instr.loadAt, Instr.sureAddr, loadVar, run_agg ha, run_size hn, hrun]
  · rename_i ha
    obtain ⟨a, v, v', rfl, hk, hc, hv, h1⟩ := load1_sound h hp hW
    refine ⟨_, _, hk, ?_, hv⟩
    simp [Instr.loadAt, Instr.sureAddr, loadVar, run_agg ha, run_load, hc]
  · cases h

theorem store_sound {t : TypeId} {n : Nat} {p x : AV} {p' x' : Value} {f : Store → Option α} (hn : szOf P t = some n) (h : aStore n p x s f = some r) (hp : VR ι s w p p') (hx : VR ι s w x x') (hW : WR B w0 ι s w) :
    ∃ s' w' ι', f s' = some r ∧ (Instr.storeAt t p' x').run P w = .ok () w' ∧ WR B w0 ι' s' w' ∧ Later ι s w ι' s' w' := by
  cases p with
  | ptr l off ep =>
    simp only [aStore] at h
    obtain ⟨cs, hk, hcs, hone⟩ := aCells_sound h hx
    obtain ⟨xs, hg, hep, hk⟩ := own_of hk
    split at hk
    · rename_i hc
      obtain ⟨hcn, hoff⟩ := hc
      cases hp with
      | ptr hl hle ha =>
        obtain ⟨hsh, hadr⟩ := ha (by rw [hg]; show _ + 1 = _ + 1; omega)
        obtain ⟨w', hst, hW', hL'⟩ := set_cells (P := P) hW hl hg off hsh (by omega) hcs hone
        refine ⟨_, w', ι, hk, ?_, hW', hL'⟩
        have hcl : cs.length = x'.cells.size := by simpa using hcs.1
        have hsz : x'.cells.size = n := by omega
        simp [Instr.storeAt, Instr.sureAddr, storeVar, run_size hn, hsz, hadr, hst]
    · cases hk
  | _ => simp [aStore] at h

theorem build_sound : ∀ {ps : List (Nat × Nat × AV)} {qs : List (Nat × Value)} {pl : Nat → Option (Nat × Nat)} {cs : List AV} {c : Array Value} {f : List AV → Option α}, aBuild ps cs f = some r → VRs ι s w cs c.toList → (∀ y ∈ c.toList, y.oneCell' = true) →
    ps.length = qs.length → (∀ (i : Nat) p q, ps[i]? = some p → qs[i]? = some q → pl q.1 = some (p.1, p.2.1) ∧ VR ι s w p.2.2 q.2) →
    ∃ cs' c', f cs' = some r ∧ Instr.fill pl c qs = some c' ∧ VRs ι s w cs' c'.toList ∧ ∀ y ∈ c'.toList, y.oneCell' = true
  | [], [], pl, cs, c, f, h, hc, h1, _, _ => ⟨cs, c, h, rfl, hc, h1⟩
  | [], _ :: _, _, _, _, _, _, _, _, hl, _ => by simp at hl
  | _ :: _, [], _, _, _, _, _, _, _, hl, _ => by simp at hl
  | (off, size, x) :: ps, (i, v) :: qs, pl, cs, c, f, h, hc, h1, hl, hq => by
    obtain ⟨hpl, hv⟩ := hq 0 _ _ rfl rfl
    simp only [aBuild] at h
    obtain ⟨vs, hk, hvs, hone⟩ := aCells_sound h hv
    split at hk
    · rename_i hcond
      have hvl : vs.length = v.cells.size := by simpa using hvs.1
      have hcl : cs.length = c.size := by simpa using hc.1
      have hput := VRs.putAll off hc hvs
      have key : ∀ (l : List Value) (o : Nat) (a : Array Value), (l.zipIdx o).foldl (fun cs (c, j) => cs.setIfInBounds (off + j) c) a = (putAllV a.toList (off + o) l).toArray := by
        intro l
        induction l with
        | nil => intro o a; simp [putAllV]
        | cons z l ih =>
          intro o a
          rw [List.zipIdx_cons, List.foldl_cons, ih, putAllV]
          simp [Nat.add_assoc]
      have hfold : (v.cells.zipIdx.foldl (fun cs (c, j) => cs.setIfInBounds (off + j) c) c) = (putAllV c.toList off v.cells.toList).toArray := by
        rw [← Array.foldl_toList, Array.toList_zipIdx]
        exact key _ 0 c
      obtain ⟨cs', c', h5, h6, h7, h8⟩ := build_sound (ps := ps) (qs := qs) (pl := pl) (c := (putAllV c.toList off v.cells.toList).toArray) hk hput (fun y hy => by
        rcases mem_putAllV _ _ _ y hy with hy | hy
        · exact hone y hy
        · exact h1 y hy) (by simpa using hl) (fun j p q hp hq' => hq (j + 1) p q (by simpa using hp) (by simpa using hq'))
      refine ⟨cs', c', h5, ?_, h7, h8⟩
      rw [Instr.fill, show pl (i, v).1 = some (off, size) from hpl]
      simp only
      rw [if_neg (by simp; omega), hfold]
      exact h6
    · cases hk

theorem parts_of {pl : Nat → Option (Nat × Nat)} {ρ : Operand → AV} {ρ' : Operand → Value} (hρ : ∀ x, VR ι s w (ρ x) (ρ' x)) : ∀ {parts : List (Nat × Operand)} {ps : List (Nat × Nat × AV)}, partsOf pl ρ parts = some ps →
    ps.length = (parts.map fun p => (p.1, ρ' p.2)).length ∧ ∀ (i : Nat) p q, ps[i]? = some p → (parts.map fun p => (p.1, ρ' p.2))[i]? = some q → pl q.1 = some (p.1, p.2.1) ∧ VR ι s w p.2.2 q.2
  | [], ps, h => by obtain rfl := Option.some.inj h; exact ⟨rfl, fun i p q hp => by simp at hp⟩
  | (a, o) :: parts, ps, h => by
    simp only [partsOf] at h
    split at h
    · rename_i q l hq hl
      obtain rfl := Option.some.inj h
      obtain ⟨h1, h2⟩ := parts_of hρ hl
      refine ⟨by simpa using h1, fun i p q' hp hq' => ?_⟩
      cases i with
      | zero =>
        simp only [List.getElem?_cons_zero, Option.some.injEq, List.map_cons] at hp hq'
        subst hp; subst hq'
        exact ⟨hq, hρ _⟩
      | succ i => exact h2 i p q' (by simpa using hp) (by simpa using hq')
    · cases h

theorem eqCells_app : ∀ {ks ks2 : List EK} {xs ys : List AV} {b : Bool}, eqCells (ks ++ ks2) xs ys = some b → ∃ b1 b2, eqCells ks (xs.take ks.length) (ys.take ks.length) = some b1 ∧ eqCells ks2 (xs.drop ks.length) (ys.drop ks.length) = some b2 ∧ b = (b1 && b2)
  | [], ks2, xs, ys, b, h => ⟨true, b, by simp [eqCells], by simpa using h, by simp⟩
  | k :: ks, ks2, xs, ys, b, h => by
    have fin : ∀ {c : Bool} {xs ys : List AV}, (eqCells (ks ++ ks2) xs ys).map (fun r => c && r) = some b → ∃ b1 b2, (eqCells ks (xs.take ks.length) (ys.take ks.length)).map (fun r => c && r) = some b1 ∧ eqCells ks2 (xs.drop ks.length) (ys.drop ks.length) = some b2 ∧ b = (b1 && b2) := fun {c xs ys} q => by
      obtain ⟨r, q1, rfl⟩ := Option.map_eq_some_iff.1 q
      obtain ⟨b1, b2, g1, g2, rfl⟩ := eqCells_app q1
      exact ⟨c && b1, b2, by rw [g1]; rfl, g2, by rw [Bool.and_assoc]⟩
    simp only [List.cons_append] at h
    cases xs with
    | nil => cases k <;> simp [eqCells] at h
    | cons x xs =>
      cases ys with
      | nil => cases k <;> cases x <;> simp [eqCells] at h
      | cons y ys =>
        simp only [List.length_cons, List.take_succ_cons, List.drop_succ_cons]
        cases k <;> cases x <;> cases y <;> simp only [eqCells] at h ⊢ <;> try (cases h; done)
        · exact fin h
        · split at h
          · rename_i hk
            rw [if_pos hk]
            exact fin h
          · cases h
        · exact fin h
/-- What is known of a struct within. -/
def SubEq (P : Program) (ι : Nat → Loc) (s : Store) (w : World) (sub : List Field → Option (List EK)) (d0 : Nat) : Prop := ∀ (gs : List Field) (ks : List EK) (xs ys : List AV) (b : Bool) (xs' ys' : Array Value) (d : Nat), d0 ≤ d → sub gs = some ks → eqCells ks xs ys = some b →
  (∀ (j : Nat) x, xs[j]? = some x → ∃ x', xs'[0 + j]? = some x' ∧ VR ι s w x x') → (∀ (j : Nat) x, ys[j]? = some x → ∃ x', ys'[0 + j]? = some x' ∧ VR ι s w x x') → (Op.eqFields d xs' ys' gs).run P w = .ok b w
theorem part_agg {t : TypeId} {gs : Array Field} {n i : Nat} (hu : P.underlying t = some (.struct gs)) (hn : szOf P t = some n) (cs : Array Value) (w : World) : (part t cs i).run P w = .ok (.agg (cs.extract i (i + n))) w := by
  have hag : aggOf P t = some true := by unfold aggOf; rw [hu]
  simp only [part, Sem.run_bind, run_agg hag, run_size hn, Result.andThen_ok, if_true, Sem.run_pure]
theorem get_part {xs : List AV} {xs' : Array Value} {i n : Nat} (hx : ∀ (j : Nat) x, xs[j]? = some x → ∃ x', xs'[i + j]? = some x' ∧ VR ι s w x x') : ∀ (j : Nat) x, (xs.take n)[j]? = some x → ∃ x', (xs'.extract i (i + n))[0 + j]? = some x' ∧ VR ι s w x x' := by
  intro j x hj
  rw [List.getElem?_take] at hj
  split at hj
  · rename_i hjn
    obtain ⟨x', h1, h2⟩ := hx j x hj
    have hlt := (Array.getElem?_eq_some_iff.1 h1).1
    refine ⟨x', ?_, h2⟩
    rw [Nat.zero_add, Array.getElem?_extract, if_pos (by omega)]
    exact h1
  · cases hj
/-- A comparison of structs. -/
theorem eqStep_sound {sub : List Field → Option (List EK)} {d0 : Nat} (hsub : SubEq P ι s w sub d0) : ∀ {fs : List Field} {i : Nat} {ks : List EK} {xs ys : List AV} {b : Bool} {xs' ys' : Array Value} (d : Nat), d0 ≤ d → ekStep P sub i fs = some ks → eqCells ks xs ys = some b →
    (∀ (j : Nat) x, xs[j]? = some x → ∃ x', xs'[i + j]? = some x' ∧ VR ι s w x x') → (∀ (j : Nat) x, ys[j]? = some x → ∃ x', ys'[i + j]? = some x' ∧ VR ι s w x x') → (Op.eqFields (d + 1) xs' ys' fs).run P w = .ok b w
  | [], i, ks, xs, ys, b, xs', ys', d, _, h, hb, _, _ => by
    obtain rfl := Option.some.inj h
    cases xs <;> cases ys <;> simp [eqCells] at hb
    subst hb
    simp [Op.eqFields]
  | f :: fs, i, ks, xs, ys, b, xs', ys', d, hd0, h, hb, hx, hy => by
    simp only [ekStep] at h
    split at h
    · cases h
    · rename_i hname
      split at h
      · rename_i hoff
        have one : ∀ (a a' : AV) (v v' : Value) (c : Bool) (xs1 ys1 : List AV) (ks1 : List EK) (r1 : Bool), xs = a :: xs1 → ys = a' :: ys1 → aggOf P f.type = some false → ekStep P sub (i + 1) fs = some ks1 → eqCells ks1 xs1 ys1 = some r1 →
            (∀ x', VR ι s w a x' → x' = v) → (∀ x', VR ι s w a' x' → x' = v') → (Op.equalIn (d + 1) f.type v v').run P w = .ok c w → (Op.eqFields (d + 1) xs' ys' (f :: fs)).run P w = .ok (c && r1) w := by
          intro a a' v v' c xs1 ys1 ks1 r1 e1 e2 hag hek hr1 hv hv' hrun
          subst e1; subst e2
          obtain ⟨x', hx1, hx2⟩ := hx 0 _ rfl
          obtain ⟨y', hy1, hy2⟩ := hy 0 _ rfl
          obtain rfl := hv x' hx2
          obtain rfl := hv' y' hy2
          have ih := eqStep_sound hsub (xs := xs1) (ys := ys1) (xs' := xs') (ys' := ys') d hd0 hek hr1 (fun j x hj => by
            have := hx (j + 1) x (by simpa using hj)
            rwa [show i + (j + 1) = i + 1 + j by omega] at this) (fun j x hj => by
            have := hy (j + 1) x (by simpa using hj)
            rwa [show i + (j + 1) = i + 1 + j by omega] at this)
          rw [Nat.add_zero] at hx1 hy1
          simp only [Op.eqFields, if_pos (show f.name ≠ "_" from hname), Sem.run_bind, part, run_agg hag, hoff, hx1, hy1, Result.andThen_ok, Sem.run_pure, Bool.false_eq_true, if_false, hrun]
          cases c
          · simp
          · simpa using ih
        split at h
        · rename_i hu
          obtain ⟨ks1, hek, rfl⟩ := Option.map_eq_some_iff.1 h
          cases xs with
          | nil => simp [eqCells] at hb
          | cons a xs1 =>
            cases ys with
            | nil => cases a <;> simp [eqCells] at hb
            | cons a' ys1 =>
              cases a <;> cases a' <;> simp only [eqCells] at hb <;> try (cases hb; done)
              rename_i p q
              obtain ⟨r1, hr1, rfl⟩ := Option.map_eq_some_iff.1 hb
              exact one (.bool p) (.bool q) (.bool p) (.bool q) (p == q) _ _ _ _ rfl rfl (by unfold aggOf; rw [hu]) hek hr1 (fun x' hx' => by cases hx'; rfl) (fun x' hx' => by cases hx'; rfl) (by simp [Op.equalIn, run_underlying hu])
        · rename_i k hu
          obtain ⟨ks1, hek, rfl⟩ := Option.map_eq_some_iff.1 h
          cases xs with
          | nil => simp [eqCells] at hb
          | cons a xs1 =>
            cases ys with
            | nil => cases a <;> simp [eqCells] at hb
            | cons a' ys1 =>
              cases a <;> cases a' <;> simp only [eqCells] at hb <;> try (cases hb; done)
              rename_i k1 p k2 q
              split at hb
              · rename_i hkk
                subst hkk
                obtain ⟨r1, hr1, rfl⟩ := Option.map_eq_some_iff.1 hb
                exact one (.int k1 p) (.int k1 q) (.int k1 p) (.int k1 q) (p == q) _ _ _ _ rfl rfl (by unfold aggOf; rw [hu]) hek hr1 (fun x' hx' => by cases hx'; rfl) (fun x' hx' => by cases hx'; rfl) (by simp [Op.equalIn, run_underlying hu])
              · cases hb
        · rename_i hu
          obtain ⟨ks1, hek, rfl⟩ := Option.map_eq_some_iff.1 h
          cases xs with
          | nil => simp [eqCells] at hb
          | cons a xs1 =>
            cases ys with
            | nil => cases a <;> simp [eqCells] at hb
            | cons a' ys1 =>
              cases a <;> cases a' <;> simp only [eqCells] at hb <;> try (cases hb; done)
              rename_i p q
              obtain ⟨r1, hr1, rfl⟩ := Option.map_eq_some_iff.1 hb
              exact one (.str p) (.str q) (.string p) (.string q) (p == q) _ _ _ _ rfl rfl (by unfold aggOf; rw [hu]) hek hr1 (fun x' hx' => by cases hx'; rfl) (fun x' hx' => by cases hx'; rfl) (by simp [Op.equalIn, run_underlying hu])
        · rename_i gs hu
          split at h
          · rename_i ks1 hks1
            split at h
            · rename_i hcond
              obtain ⟨ks2, hek, rfl⟩ := Option.map_eq_some_iff.1 h
              obtain ⟨b1, b2, g1, g2, rfl⟩ := eqCells_app hb
              have hff : P.fieldsOf f.type = gs := by simp [Program.fieldsOf, hu]
              have hr1 := hsub gs.toList ks1 _ _ b1 _ _ d hd0 hks1 g1 (get_part (n := ks1.length) hx) (get_part (n := ks1.length) hy)
              have heq : (Op.equalIn (d + 1) f.type (.agg (xs'.extract i (i + ks1.length))) (.agg (ys'.extract i (i + ks1.length)))).run P w = .ok b1 w := by
                rw [run_equalIn_struct w d f.type _ _ (by rw [hff]; exact hu) hcond.1, hff]
                exact hr1
              have sh : ∀ {zs : List AV} {zs' : Array Value}, (∀ (j : Nat) x, zs[j]? = some x → ∃ x', zs'[i + j]? = some x' ∧ VR ι s w x x') → ∀ (j : Nat) x, (zs.drop ks1.length)[j]? = some x → ∃ x', zs'[i + ks1.length + j]? = some x' ∧ VR ι s w x x' := fun hz j x hj => by
                rw [List.getElem?_drop] at hj
                have := hz _ x hj
                rwa [show i + (ks1.length + j) = i + ks1.length + j by omega] at this
              have ih := eqStep_sound hsub (xs' := xs') (ys' := ys') d hd0 hek g2 (sh hx) (sh hy)
              simp only [Op.eqFields, if_pos (show f.name ≠ "_" from hname), Sem.run_bind, hoff, part_agg hu hcond.2, Result.andThen_ok, heq]
              cases b1
              · simp
              · simpa using ih
            · cases h
          · cases h
        · cases h
      · cases h
theorem eqFields_sound : ∀ (n : Nat) {fs : List Field} {i : Nat} {ks : List EK} {xs ys : List AV} {b : Bool} {xs' ys' : Array Value} (d : Nat), n ≤ d → ekFields P n i fs = some ks → eqCells ks xs ys = some b →
    (∀ (j : Nat) x, xs[j]? = some x → ∃ x', xs'[i + j]? = some x' ∧ VR ι s w x x') → (∀ (j : Nat) x, ys[j]? = some x → ∃ x', ys'[i + j]? = some x' ∧ VR ι s w x x') → (Op.eqFields (d + 1) xs' ys' fs).run P w = .ok b w
  | 0, fs, i, ks, xs, ys, b, xs', ys', d, hd, h, hb, hx, hy => eqStep_sound (d0 := 0) (sub := fun _ => none) (fun gs ks xs ys b xs' ys' d _ q => by cases q) d (Nat.zero_le _) h hb hx hy
  | n + 1, fs, i, ks, xs, ys, b, xs', ys', d, hd, h, hb, hx, hy => eqStep_sound (d0 := n + 1) (sub := fun gs => ekFields P n 0 gs) (fun gs ks xs ys b xs' ys' d hd q q1 q2 q3 => by
      obtain ⟨d1, rfl⟩ : ∃ d1, d = d1 + 1 := ⟨d - 1, by omega⟩
      exact eqFields_sound n d1 (by omega) q q1 q2 q3) d hd h hb hx hy
end
end Go.Proofs.YtjbgdpfkmcibbaaGreatDoor.Sim
