/- The abstract machine is sound: numbers, strings, cuts, maps. Plain lemmas. No condition. -/
import Derived.Test.YtjbgdpfkmcibbaaGreatDoorSimG
import Derived.Laws.BytesString
namespace Go.Proofs.YtjbgdpfkmcibbaaGreatDoor.Sim
open Go.RowKit (Below)
set_option linter.unusedSimpArgs false
section
variable {P : Program} {call : CallA} {B : Nat} {w0 : World} {ι : Nat → Loc} {s : Store} {w : World} {α : Type} {r : α} {κ : AV → Store → Option α}

theorem eqGuard_skip {op : BinOp} {t : TypeId} {x y : Operand} {a b : Value} (h1 : ¬ (a = .nilIface ∧ b = .nilIface)) (h2 : ∀ xs ys, ¬ (a = .agg xs ∧ b = .agg ys)) : (eqGuard op t x y a b).run P w = .ok () w := by
  cases op <;> simp only [eqGuard, Bool.not_true, Bool.not_false, if_true, Bool.false_eq_true, if_false, Sem.run_pure] <;>
  first
  | rfl
  | (cases a <;> cases b <;> first | rfl | (exact absurd ⟨rfl, rfl⟩ h1) | exact absurd ⟨rfl, rfl⟩ (h2 _ _))

theorem shift_sound {op : BinOp} {t : TypeId} {ox oy : Operand} {x y : AV} {x' y' : Value} {f : AV → Option α} (h : aShift op x y f = some r) (hx : VR ι s w x x') (hy : VR ι s w y y') :
    ∃ v v', f v = some r ∧ (do eqGuard op t ox oy x' y'; binOp op t x' y' : Sem Value).run P w = .ok v' w ∧ VR ι s w v v' := by
  unfold aShift at h
  split at h
  · rename_i k a k' b
    cases hx
    cases hy
    split at h
    · cases h
    · rename_i hb
      split at h
      · exact ⟨_, _, h, by rw [Sem.run_bind, eqGuard_skip (by simp) (by simp)]; simp [binOp, Op.shift, hb], .int _ _⟩
      · exact ⟨_, _, h, by rw [Sem.run_bind, eqGuard_skip (by simp) (by simp)]; simp [binOp, Op.shift, hb], .int _ _⟩
      · cases h
  · cases h

theorem bin_sound {op : BinOp} {t : TypeId} {ox oy : Operand} {x y : AV} {x' y' : Value} {f : AV → Option α} (h : aBin op x y f = some r) (hop : op ≠ .shl ∧ op ≠ .shr) (hx : VR ι s w x x') (hy : VR ι s w y y') :
    ∃ v v', f v = some r ∧ (do eqGuard op t ox oy x' y'; binOp op t x' y' : Sem Value).run P w = .ok v' w ∧ VR ι s w v v' := by
  unfold aBin at h
  split at h
  · rename_i k a k' b
    cases hx
    cases hy
    split at h
    · rename_i hk
      subst hk
      split at h
      · rename_i v hv
        rw [Sem.run_bind, eqGuard_skip (by simp) (by simp)]
        simp only [Result.andThen_ok]
        cases op <;> simp only [intBin] at hv <;> first | (exact absurd rfl hop.1) | (exact absurd rfl hop.2) | skip
        all_goals first
          | (obtain rfl := Option.some.inj hv; refine ⟨_, _, h, ?_, .int _ _⟩; simp only [binOp, ne_eq, not_true_eq_false, if_false, Op.intArith, Op.intBits, Op.intCmp]; rfl)
          | (obtain rfl := Option.some.inj hv; refine ⟨_, _, h, ?_, .bool _⟩; simp only [binOp, ne_eq, not_true_eq_false, if_false, Op.intArith, Op.intBits, Op.intCmp]; rfl)
          | (split at hv
             · cases hv
             · rename_i hb0
               obtain rfl := Option.some.inj hv
               refine ⟨_, _, h, ?_, .int _ _⟩
               simp only [binOp, ne_eq, not_true_eq_false, if_false, Op.intDiv, hb0]
               rfl)
      · cases h
    · cases h
  · rename_i a b
    cases hx
    cases hy
    split at h
    · rename_i v hv
      rw [Sem.run_bind, eqGuard_skip (by simp) (by simp)]
      simp only [Result.andThen_ok]
      cases op <;> simp only [strBin] at hv <;> first | (cases hv; done) | skip
      all_goals first
        | (obtain rfl := Option.some.inj hv; exact ⟨_, _, h, rfl, .bool _⟩)
        | (split at hv
           · rename_i hb0
             obtain rfl := Option.some.inj hv
             have hmax : IntKind.i64.max = 9223372036854775807 := by decide
             have hb1 : ¬ ((a.size + b.size : Nat) : Int) > IntKind.i64.max := by rw [hmax]; omega
             exact ⟨_, _, h, by simp only [binOp, Op.stringOp, if_neg hb1]; rfl, .str _⟩
           · cases hv)
    · cases h
  · cases h

theorem binop_eql {t : TypeId} {x' y' : Value} {b : Bool} (h : (Op.equal t x' y').run P w = .ok b w) (hn : ∀ k a k' b, ¬ (x' = .int k a ∧ y' = .int k' b)) (hs : ∀ a b, ¬ (x' = .string a ∧ y' = .string b)) (hf : ∀ k a k' b, ¬ (x' = .float k a ∧ y' = .float k' b)) (hc : ∀ k a a2 k' b b2, ¬ (x' = .complex k a a2 ∧ y' = .complex k' b b2)) :
    (binOp .eql t x' y').run P w = .ok (.bool b) w ∧ (binOp .neq t x' y').run P w = .ok (.bool (!b)) w := by
  constructor <;> unfold binOp <;> split <;> first
    | (rename_i h1 h2 h3; exact absurd ⟨rfl, rfl⟩ (hn _ _ _ _))
    | (exact absurd ⟨rfl, rfl⟩ (hn _ _ _ _))
    | (exact absurd ⟨rfl, rfl⟩ (hs _ _))
    | (exact absurd ⟨rfl, rfl⟩ (hf _ _ _ _))
    | (exact absurd ⟨rfl, rfl⟩ (hc _ _ _ _ _ _))
    | (simp [h]; done)
    | simp_all

theorem eq_sound {e : EK} {t : TypeId} {op : BinOp} {ox oy : Operand} {x y : AV} {x' y' : Value} {f : Bool → Option α} (he : ekOf P t = some e) (h : aEq e x y f = some r) (hx : VR ι s w x x') (hy : VR ι s w y y') :
    ∃ b, f b = some r ∧ (do eqGuard op t ox oy x' y'; binOp .eql t x' y' : Sem Value).run P w = .ok (.bool b) w ∧ (do eqGuard op t ox oy x' y'; binOp .neq t x' y' : Sem Value).run P w = .ok (.bool (!b)) w := by
  have plain : ∀ b, (Op.equal t x' y').run P w = .ok b w → (∀ k a k' b, ¬ (x' = .int k a ∧ y' = .int k' b)) → (∀ a b, ¬ (x' = .string a ∧ y' = .string b)) → (∀ k a k' b, ¬ (x' = .float k a ∧ y' = .float k' b)) → (∀ k a a2 k' b b2, ¬ (x' = .complex k a a2 ∧ y' = .complex k' b b2)) →
      ¬ (x' = .nilIface ∧ y' = .nilIface) → (∀ xs ys, ¬ (x' = .agg xs ∧ y' = .agg ys)) →
      (do eqGuard op t ox oy x' y'; binOp .eql t x' y' : Sem Value).run P w = .ok (.bool b) w ∧ (do eqGuard op t ox oy x' y'; binOp .neq t x' y' : Sem Value).run P w = .ok (.bool (!b)) w := by
    intro b hb h1 h2 h3 h4 h5 h6
    obtain ⟨k1, k2⟩ := binop_eql hb h1 h2 h3 h4
    rw [Sem.run_bind, Sem.run_bind, eqGuard_skip h5 h6]
    exact ⟨k1, k2⟩
  unfold aEq at h
  split at h
  case h_16 =>
    rename_i fs xs ys
    split at h
    · rename_i b hb
      cases hx with
      | agg hx1 hx2 hx3 =>
        rename_i xs'
        cases hy with
        | agg hy1 hy2 hy3 =>
          rename_i ys'
          unfold ekOf at he
          split at he <;> try (cases he; done)
          rename_i fl hu
          split at he
          · rename_i hcond
            obtain ⟨ks, hks, hke⟩ := Option.map_eq_some_iff.1 he
            injection hke with hke
            subst hke
            have hff : P.fieldsOf t = fl := by simp [Program.fieldsOf, hu]
            have get : ∀ {vs : List AV} {vs' : Array Value}, vs.length = vs'.size → (∀ (i : Nat) x y, vs[i]? = some x → vs'[i]? = some y → VR ι s w x y) → ∀ (j : Nat) x, vs[j]? = some x → ∃ x', vs'[0 + j]? = some x' ∧ VR ι s w x x' := by
              intro vs vs' hl hv j x hj
              have hjl := (List.getElem?_eq_some_iff.1 hj).1
              have : vs'[j]? = some (vs'[j]'(by omega)) := Array.getElem?_eq_getElem (by omega)
              exact ⟨_, by rw [Nat.zero_add]; exact this, hv j x _ hj this⟩
            have hrun := eqFields_sound 4 (xs' := xs') (ys' := ys') 9998 (by decide) hks hb (get hx1 hx2) (get hy1 hy2)
            have heq : (Op.equalIn 10000 t (.agg xs') (.agg ys')).run P w = .ok b w := by
              rw [run_equalIn_struct w 9999 t xs' ys' (by rw [hff]; exact hu) hcond.1, hff]; exact hrun
            refine ⟨b, h, ?_, ?_⟩
            · rw [Sem.run_bind, run_eqGuard_agg w op t ox oy xs' ys' hcond.2]
              simp only [Result.andThen_ok, run_eql_struct, heq]
            · rw [Sem.run_bind, run_eqGuard_agg w op t ox oy xs' ys' hcond.2]
              simp only [Result.andThen_ok, run_neq_struct, heq]
          · cases he
    · cases h
  case h_17 => cases h
  all_goals
    (unfold ekOf at he
     split at he <;> try (cases he; done)
     case h_9 =>
       split at he
       · obtain ⟨_, _, hz⟩ := Option.map_eq_some_iff.1 he
         cases hz
       · cases he
     rename_i hu
     cases hx
     cases hy
     refine ⟨_, h, ?_⟩
     refine plain _ ?_ (by simp) (by simp) (by simp) (by simp) (by simp) (by simp)
     show (Op.equalIn (9999 + 1) t _ _).run P w = _
     generalize 9999 = d
     simp only [Op.equalIn, Sem.run_bind, run_underlying hu, Result.andThen_ok]
     rfl)
end
end Go.Proofs.YtjbgdpfkmcibbaaGreatDoor.Sim
