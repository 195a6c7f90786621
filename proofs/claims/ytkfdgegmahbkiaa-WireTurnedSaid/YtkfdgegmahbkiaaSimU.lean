/- The abstract machine with some calls answered by what was worked out beforehand. No condition. -/
import Derived.Test.YtkfdgegmahbkiaaSimQ
import Derived.Test.YtkfdgegmahbkiaaSimR
import Derived.KernelRfl
namespace Go.Proofs.Ytkfdgegmahbkiaa.Sim
open Go.RowKit (Below)

/-- As 'run', but what 'O' answers is taken as it is. -/
noncomputable def runO (P : Program) (O : CallA) : Nat → CallA
  | 0, _, _, _ => none
  | k + 1, f, args, s => match O f args s with
    | some r => some r
    | Option.none => match P.funcs[f]? with
      | Option.none => none
      | some fn => match fn.body with
        | Option.none => none
        | some c => if fn.name == "runtime.NumGoroutine" then none else
          if args.length ≤ fn.ntmps then exec P (runO P O k) k fn.ntmps c (topK P fn.results.toList) (frOf args) s else none

theorem runO_eq {P : Program} {O : CallA} {f : Nat} {fn : Func} (hf : P.funcs[f]? = some fn) (hb : fn.body = some (bodyOf fn)) (hn : (fn.name == "runtime.NumGoroutine") = false) {args : List AV} (ha : decide (args.length ≤ fn.ntmps) = true) (k : Nat) (s : Store) (hO : O f args s = none) :
    runO P O (k + 1) f args s = exec P (runO P O k) k fn.ntmps (bodyOf fn) (topK P fn.results.toList) (frOf args) s := by
  have ha' := of_decide_eq_true ha
  simp only [runO, hO, hf]
  rw [hb]
  simp only [hn, if_pos ha']
  rfl
theorem runO_or {P : Program} {O : CallA} {f : Nat} {args : List AV} {s : Store} {r : AV × Store} (h : O f args s = some r) (k : Nat) : runO P O (k + 1) f args s = some r := by
  simp only [runO, h]

section
variable {P : Program} {B : Nat} {w0 : World} {O : CallA}

/-- What is answered beforehand is sound. -/
def OrOk (P : Program) (B : Nat) (w0 : World) (O : CallA) : Prop :=
  (∀ H T, CallFr H T O) ∧ (∀ (H : Nat → Prop) (T : Nat → AObj) g args s, Hid H s → O g args s = none → O g args (addT H T s) = none) ∧ (∀ g args s v s', O g args s = some (v, s') → (∃ fn, P.funcs[g]? = some fn ∧ (fn.name == "runtime.NumGoroutine") = false ∧ fn.body.isNone = false) ∧
    ∀ ι w args', VRs ι s w args args'.toList → WR B w0 ι s w → Calls P g args' w fun e w' => ∃ v' ι', e = .returned v' ∧ VR ι' s' w' v v' ∧ WR B w0 ι' s' w' ∧ Later ι s w ι' s' w') ∧ MethFine P

theorem runO_fr (hO : OrOk P B w0 O) (H : Nat → Prop) (T : Nat → AObj) : ∀ k, CallFr H T (runO P O k)
  | 0 => fun f args s v s' h e => by simp [runO] at e
  | k + 1 => fun f args s v s' h e => by
    have ih := runO_fr hO H T k
    unfold runO at e ⊢
    cases hq : O f args s with
    | some r =>
      rw [hq] at e
      simp only at e ⊢
      obtain rfl := Option.some.inj e
      obtain ⟨h1, h2⟩ := hO.1 H T f args s v s' h hq
      exact ⟨h1, by rw [h2]⟩
    | none =>
      rw [hq] at e
      simp only at e
      cases hq2 : O f args (addT H T s) with
      | some r => exact absurd hq2 (by rw [hO.2.1 H T f args s h hq]; simp)
      | none =>
        simp only
        cases hf : P.funcs[f]? with
        | none => rw [hf] at e; cases e
        | some fn =>
          rw [hf] at e
          simp only at e ⊢
          cases hc : fn.body with
          | none => rw [hc] at e; cases e
          | some c =>
            rw [hc] at e
            simp only at e ⊢
            split at e
            · cases e
            · rename_i hn
              rw [if_neg hn]
              split at e
              · rename_i hl
                rw [if_pos hl]
                exact top_fr ih c _ _ s v s' h e
              · cases e

theorem runO_bodied (hO : OrOk P B w0 O) : ∀ k, Bodied P (runO P O k)
  | 0 => ⟨hO.2.2.2, fun g args s q h => by simp [runO] at h⟩
  | k + 1 => ⟨hO.2.2.2, fun g args s q h => by
    unfold runO at h
    split at h
    · rename_i r hr
      exact (hO.2.2.1 g args s r.1 r.2 hr).1
    · split at h
      · cases h
      · rename_i fn hfn
        split at h
        · cases h
        · rename_i c hc
          split at h
          · cases h
          · rename_i hn
            exact ⟨fn, hfn, by simpa using hn, by rw [hc]; rfl⟩⟩

theorem runO_calls (hO : OrOk P B w0 O) : ∀ k, CallOk P B w0 (runO P O k)
  | 0 => fun g args s v s' ι w args' h => by simp [runO] at h
  | k + 1 => fun g args s v s' ι w args' h ha hW => by
    have ih := runO_calls hO k
    unfold runO at h
    split at h
    · rename_i r hr
      obtain ⟨_, h2⟩ := hO.2.2.1 g args s r.1 r.2 hr
      obtain rfl := Option.some.inj h
      exact h2 ι w args' ha hW
    · split at h
      · cases h
      · rename_i fn hfn
        split at h
        · cases h
        · rename_i c hc
          split at h
          · cases h
          · split at h
            · rename_i hlen
              refine calls_of_wp hfn hc ?_
              have hl := ha.1
              simp only [Array.length_toList] at hl
              have hF : FR fn.ntmps ι s w (frOf args) { tmps := args' ++ Array.replicate (fn.ntmps - args'.size) undef, defers := [] } := by
                refine ⟨by simp; omega, rfl, fun t => ?_⟩
                unfold frOf
                by_cases ht : t < args.length
                · have e1 : args.getD t (.tuple []) = args[t] := by simp [ht]
                  have e2 : (args' ++ Array.replicate (fn.ntmps - args'.size) undef).getD t undef = args'[t]'(by omega) := by
                    simp only [Array.getD_eq_getD_getElem?]
                    rw [Array.getElem?_append_left (by omega)]
                    simp [show t < args'.size by omega]
                  rw [e1, e2]
                  exact ha.2 t _ _ (List.getElem?_eq_getElem ht) (by simp [show t < args'.size by omega])
                · have e1 : args.getD t (.tuple []) = .tuple [] := by simp [show args.length ≤ t by omega]
                  have e2 : (args' ++ Array.replicate (fn.ntmps - args'.size) undef).getD t undef = undef := by
                    simp only [Array.getD_eq_getD_getElem?]
                    rw [Array.getElem?_append_right (by omega)]
                    rw [Array.getElem?_replicate]
                    split <;> rfl
                  rw [e1, e2]; exact VR.undef _ _ _
              have hfin : ∀ fr s2 a w2, St P B w0 fn.ntmps ι s w fr s2 a w2 → retK P fn.results.toList fr s2 = some (v, s') →
                  a.defers = [] ∧ ∃ v', (results fn a.tmps).run P w2 = .ok v' w2 ∧ ∃ v'' ι', Ending.returned v' = .returned v'' ∧ VR ι' s' w2 v v'' ∧ WR B w0 ι' s' w2 ∧ Later ι s w ι' s' w2 := by
                intro fr s2 a w2 ⟨ι2, k1, k2, k3⟩ h
                obtain ⟨rfl, v', g1, g2⟩ := results_sound h k1 k2
                exact ⟨k1.defers, v', g1, v', ι2, rfl, g2, k2, k3⟩
              have hb := runO_bodied hO k
              exact exec_sound hb ih (draw_sound hb ih) (drawq_sound hb ih (fun H T => runO_fr hO H T k)) c (topK P fn.results.toList) _ hfin (fun id fr s a w _ h => by simp [topK] at h) hfin (frOf args) s _ w ⟨ι, hF, hW, Later.refl _ _ _⟩ h
            · cases h

/-- What only adds blocks leaves the store standing for the world. -/
theorem WR.below {ι : Nat → Loc} {s : Store} {w w' : World} (h : WR B w0 ι s w) (b : Below w.heap.size w w') : WR B w0 ι s w' ∧ Later ι s w ι s w' := by
  have k : Later ι s w ι s w' := ⟨Nat.le_refl _, fun _ _ => Nat.le_refl _, fun _ _ _ => rfl, fun c hc => bsz_same (b.block c hc), b.size⟩
  refine ⟨⟨⟨b.os.trans h.bel.os, b.tape.trans h.bel.tape, b.output.trans h.bel.output, Nat.le_trans h.bel.size b.size, fun c hc => (b.block c (Nat.lt_of_lt_of_le hc h.hB)).trans (h.bel.block c hc)⟩, Nat.le_trans h.hB b.size, fun l hl => ?_, h.sep, fun g => (h.glob g).later k⟩, k⟩
  exact (h.obj l hl).later k (fun hn => b.block _ (h.lt hl hn))

/-- A closed call, worked out in a store of its own: a bool. -/
noncomputable def awO (P : Program) (S0 : Store) (K aw : Nat) : CallA := fun f args s => if f = aw then (match args with
    | [] => (match run P K aw [] S0 with
      | some (.bool b, _) => some (.bool b, s)
      | _ => none)
    | _ => none) else none

theorem awO_ok {S0 : Store} {K aw : Nat} (hS : ∀ w : World, Below B w0 w → ∃ ι0, WR w.heap.size w ι0 S0 w) (hM : MethFine P := by unfold MethFine; kernel_rfl) : OrOk P B w0 (awO P S0 K aw) := by
  refine ⟨fun H T f args s v s' h e => ?_, fun H T f args s h e => ?_, ?_, hM⟩
  · unfold awO at e ⊢
    split at e
    case isFalse => cases e
    rename_i hf
    rw [if_pos hf]
    split at e
    case h_2 => cases e
    split at e
    case h_2 => cases e
    obtain ⟨rfl, rfl⟩ := Prod.mk.inj (Option.some.inj e)
    exact ⟨h, rfl⟩
  · unfold awO at e ⊢
    split at e
    case isFalse hf => rw [if_neg hf]
    rename_i hf
    rw [if_pos hf]
    split at e
    case h_2 => rfl
    split at e
    case h_1 => cases e
    rfl
  intro g args s v s' h
  unfold awO at h
  split at h
  case isFalse => cases h
  rename_i hg
  subst hg
  split at h
  case h_2 => cases h
  split at h
  case h_2 => cases h
  rename_i b s2 hr
  obtain ⟨rfl, rfl⟩ := Prod.mk.inj (Option.some.inj h)
  refine ⟨(run_bodied P hM K).2 g [] S0 _ hr, fun ι w args' ha hW => ?_⟩
  have hz : args' = #[] := by
    have := ha.1
    simp at this
    exact Array.eq_empty_of_size_eq_zero this.symm
  subst hz
  obtain ⟨ι0, h0⟩ := hS w hW.bel
  refine (run_calls P w.heap.size w K hM g [] S0 _ s2 ι0 w #[] hr (.nil _ _ _) h0).mono fun e w' he => ?_
  obtain ⟨v', ι', rfl, k1, k2, k3⟩ := he
  cases k1
  obtain ⟨j1, j2⟩ := hW.below k2.bel
  exact ⟨_, ι, rfl, .bool b, j1, j2⟩

/-- A law whose run comes to true. -/
theorem law_callsO {n k : Nat} {xs : List AV} {ys : Array Value} {s s' : Store} {ι : Nat → Loc} {w : World} (hO : OrOk P w.heap.size w O) (h : runO P O k n xs s = some (.bool true, s')) (hW : WR w.heap.size w ι s w) (hV : VRs ι s w xs ys.toList) :
    Calls P n ys w fun e w' => e = .returned (.bool true) ∧ Below w.heap.size w w' :=
  (runO_calls hO k n xs s _ s' ι w ys h hV hW).mono fun e w' he => by
    obtain ⟨v', ι', rfl, h1, h2, h3⟩ := he
    cases h1
    exact ⟨rfl, h2.bel⟩
end
end Go.Proofs.Ytkfdgegmahbkiaa.Sim
