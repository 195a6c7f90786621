/- The texts SimM, SimN, SimO, one behind the other. No condition. -/
import Derived.Test.YtkfdgegmahbkiaaSimL
import Derived.Orders
namespace Go.Proofs.Ytkfdgegmahbkiaa.Sim
open Go.RowKit (Below)
set_option linter.unusedSimpArgs false
section
variable {P : Program} {call : CallA} {B : Nat} {w0 : World} {ι : Nat → Loc} {s : Store} {w : World} {α : Type} {r : α}

/-- A frame stands for a frame. -/
structure FR (nt : Nat) (ι : Nat → Loc) (s : Store) (w : World) (fr : Fr) (a : Act) : Prop where
  size : a.tmps.size = nt
  defers : a.defers = []
  val : ∀ t, VR ι s w (fr t) (a.tmps.getD t undef)

theorem VR.undef (ι : Nat → Loc) (s : Store) (w : World) : VR ι s w (.tuple []) Go.undef := VRs.tup (ys := []) (.nil _ _ _)

theorem FR.later {nt : Nat} {fr : Fr} {a : Act} {ι' : Nat → Loc} {s' : Store} {w' : World} (h : FR nt ι s w fr a) (k : Later ι s w ι' s' w') : FR nt ι' s' w' fr a := ⟨h.size, h.defers, fun t => (h.val t).later k⟩
theorem FR.eval {nt : Nat} {fr : Fr} {a : Act} (h : FR nt ι s w fr a) (hW : WR B w0 ι s w) (x : Operand) : VR ι s w (evalA fr x) (a.eval x) := by
  cases x with
  | tmp t => exact h.val t
  | const v => exact ofVal_sound _ _ _ _
  | global g => exact hW.glob g
  | func f => exact .func rfl (fun i x y hx => by simp at hx) rfl (fun i x y hx => by simp at hx)
theorem FR.put {nt : Nat} {fr : Fr} {a : Act} (h : FR nt ι s w fr a) {d : Option Tmp} {v : AV} {v' : Value} (hv : VR ι s w v v') {f : Fr → Option α} (hp : aPut nt d v fr f = some r) : ∃ fr', f fr' = some r ∧ FR nt ι s w fr' (a.put d v') ∧ (∀ t, fr' t = if d = some t then v else fr t) := by
  unfold aPut at hp
  split at hp
  · exact ⟨fr, hp, h, fun t => by simp⟩
  · rename_i t
    split at hp
    · rename_i ht
      refine ⟨upd fr t v, hp, ⟨by simp [Act.put, h.size], h.defers, fun j => ?_⟩, fun j => ?_⟩
      case refine_2 =>
        unfold upd
        by_cases e : j = t
        · simp [e]
        · rw [if_neg e, if_neg (fun q => e (Option.some.inj q).symm)]
      unfold upd
      by_cases e : j = t
      · subst e
        rw [if_pos rfl]
        have : (a.put (some j) v').tmps.getD j Go.undef = v' := by simp [Act.put, h.size, ht]
        rw [this]; exact hv
      · rw [if_neg e]
        have : (a.put (some t) v').tmps.getD j Go.undef = a.tmps.getD j Go.undef := by simp [Act.put, Array.getElem?_setIfInBounds_ne (Ne.symm e)]
        rw [this]; exact h.val j
    · cases hp

/-- The calls are sound. -/
def CallOk (P : Program) (B : Nat) (w0 : World) (call : CallA) : Prop :=
  ∀ g args s v s' ι w args', call g args s = some (v, s') → VRs ι s w args args'.toList → WR B w0 ι s w →
    Calls P g args' w fun e w' => ∃ v' ι', e = .returned v' ∧ VR ι' s' w' v v' ∧ WR B w0 ι' s' w' ∧ Later ι s w ι' s' w'

/-- An operation that is performed. -/
theorem op_run (hB : Bodied P call) (hC : CallOk P B w0 call) {nt : Nat} {fr : Fr} {a : Act} {o : Oper} {κ : AV → Store → Option α} (h : aop P call (evalA fr) o s κ = some r) (hF : FR nt ι s w fr a) (hW : WR B w0 ι s w)
    {K : Act → World → Prop} {Q : Exit → Act → World → Prop} (hK : ∀ v s' v' w' ι', κ v s' = some r → VR ι' s' w' v v' → WR B w0 ι' s' w' → Later ι s w ι' s' w' → K (a.put o.dst v') w') : o.wp P a w K Q := by
  unfold Oper.wp
  rcases aop_sound hB (hF.eval hW) h hW with ⟨v, s', nx, v', w', ι', h1, h2, h3, h4, h5, h6⟩ | ⟨g, args, args', v, s', h1, h2, h3, h4⟩
  · rw [h2]
    rcases h3 with rfl | ⟨rfl, rfl⟩
    · exact hK v s' v' w' ι' h1 h4 h5 h6
    · exact hK v s' _ w' ι' h1 h4 h5 h6
  · rw [h1]
    refine Calls.mono (hC g args s v s' ι w args' h3 h2 hW) (fun e w' he => ?_)
    obtain ⟨v', ι', rfl, k1, k2, k3⟩ := he
    exact hK v s' v' w' ι' h4 k1 k2 k3

theorem guard_of {nt : Nat} {fr : Fr} {a : Act} {ops : Array Oper} {o : Oper} {j : Nat} {want : Bool} {t : Tmp} (hg : o.guard = some (j, want)) (ht : (ops[j]?).bind (·.dst) = some t) (hF : FR nt ι s w fr a) {x y : Option α} (h : aGuard (fr t) want x y = some r) :
    (Region.wanted o (yielded ops a.tmps) = true ∧ x = some r) ∨ (Region.wanted o (yielded ops a.tmps) = false ∧ y = some r) := by
  have hv := hF.val t
  unfold aGuard at h
  unfold Region.wanted yielded
  simp only [hg, ht, Option.bind_some]
  split at h
  · rename_i b hb
    rw [hb] at hv
    have hget : a.tmps[t]? = some (.bool b) := by
      cases hq : a.tmps[t]? with
      | none => simp [hq] at hv; cases hv
      | some q => simp [hq] at hv; cases hv; rfl
    rw [hget]
    split at h
    · rename_i e; subst e; exact .inl ⟨by simp, h⟩
    · rename_i e; exact .inr ⟨by simp [e], h⟩
  · rename_i hb
    rw [hb] at hv
    refine .inr ⟨?_, h⟩
    cases hq : a.tmps[t]? with
    | none => simp
    | some q => simp [hq] at hv; cases hv; simp
  · cases h

/-- Where a state has come to, since a call began. -/
def St (_P : Program) (B : Nat) (w0 : World) (nt : Nat) (ι0 : Nat → Loc) (s0 : Store) (w1 : World) (fr : Fr) (s : Store) (a : Act) (w : World) : Prop :=
  ∃ ι, FR nt ι s w fr a ∧ WR B w0 ι s w ∧ Later ι0 s0 w1 ι s w

variable {ι0 : Nat → Loc} {s0 : Store} {w1 : World} {nt : Nat}

theorem execOps_sound (hB : Bodied P call) (hC : CallOk P B w0 call) {ops : Array Oper} {κ : Fr → Store → Option α} {Q : Exit → Act → World → Prop} (hQ : ∀ fr s a w, St P B w0 nt ι0 s0 w1 fr s a w → κ fr s = some r → Q .normal a w) :
    ∀ (l : List Oper) (fr : Fr) (s : Store) (a : Act) (w : World), St P B w0 nt ι0 s0 w1 fr s a w → execOps P call nt ops l κ fr s = some r → wpList P ops Q l a w
  | [], fr, s, a, w, hS, h => hQ fr s a w hS h
  | o :: l, fr, s, a, w, hS, h => by
    obtain ⟨ι, hF, hW, hL⟩ := hS
    have fin : ∀ {v : AV} {s' : Store} {v' : Value} {w' : World} {ι' : Nat → Loc}, aPut nt o.dst v fr (fun fr' => execOps P call nt ops l κ fr' s') = some r → VR ι' s' w' v v' → WR B w0 ι' s' w' → Later ι s w ι' s' w' → wpList P ops Q l (a.put o.dst v') w' := by
      intro v s' v' w' ι' hp hv hW' hL'
      obtain ⟨fr', k1, k2, _⟩ := FR.put (hF.later hL') hv hp
      exact execOps_sound hB hC hQ l fr' s' _ w' ⟨ι', k2, hW', hL.trans hL'⟩ k1
    unfold execOps at h
    unfold wpList
    cases hg : o.guard with
    | none =>
      rw [hg] at h
      rw [if_pos (by simp [Region.wanted, hg])]
      exact .inl (op_run hB hC h hF hW fun v s' v' w' ι' k1 k2 k3 k4 => fin k1 k2 k3 k4)
    | some jw =>
      obtain ⟨j, want⟩ := jw
      rw [hg] at h
      simp only at h
      split at h
      · cases h
      · rename_i t ht
        obtain ⟨q, hq, hk⟩ := Option.bind_eq_some_iff.1 h
        rcases guard_of hg ht hF hq with ⟨hw, hx⟩ | ⟨hw, hy⟩
        · rw [if_pos hw]
          refine .inl (op_run hB hC hx hF hW fun v s' v' w' ι' k1 k2 k3 k4 => ?_)
          injection k1 with k1
          subst k1
          exact fin hk k2 k3 k4
        · rw [if_neg (by rw [hw]; simp)]
          injection hy with hy
          subst hy
          exact fin hk (VR.undef _ _ _) hW (Later.refl _ _ _)

/-- A region whose order is drawn. -/
def DrawSound (P : Program) (call : CallA) (B : Nat) (w0 : World) : Prop :=
  ∀ {α : Type} {r : α} {nt : Nat} {ι0 : Nat → Loc} {s0 : Store} {w1 : World} {ops : Array Oper} {κ : Fr → Store → Option α} {Q : Exit → Act → World → Prop} {id : Nat}, drawOk P ops (ops.toList.map (rowOf P ops)) (Region.before ops).toList = true →
    (∀ fr s a w, St P B w0 nt ι0 s0 w1 fr s a w → κ fr s = some r → Q .normal a w) →
    ∀ (fr : Fr) (s : Store) (a : Act) (w : World), St P B w0 nt ι0 s0 w1 fr s a w → execDraw P call nt ops (Region.before ops) κ (ops.toList.zipIdx.map fun p => (p.2, p.1)) [] fr s = some r → (Code.region id ops true).wp P Q a w

def DrawSoundQ (P : Program) (call : CallA) (B : Nat) (w0 : World) : Prop :=
  ∀ {α : Type} {r : α} {nt : Nat} {ι0 : Nat → Loc} {s0 : Store} {w1 : World} {ops : Array Oper} {κ : Fr → Store → Option α} {Q : Exit → Act → World → Prop} {id : Nat}, drawOk P ops (ops.toList.map (rowOf2 P ops)) (Region.before ops).toList = true →
    (∀ fr s a w, St P B w0 nt ι0 s0 w1 fr s a w → κ fr s = some r → Q .normal a w) →
    ∀ (fr : Fr) (s : Store) (a : Act) (w : World), St P B w0 nt ι0 s0 w1 fr s a w → execDrawQ P call nt ops (Region.before ops) s.next κ (ops.toList.zipIdx.map fun p => (p.2, p.1)) [] fr (reserve ops.size s) = some r → (Code.region id ops true).wp P Q a w

theorem exec_sound (hB : Bodied P call) (hC : CallOk P B w0 call) (hD : DrawSound P call B w0) (hDQ : DrawSoundQ P call B w0) {fuel : Nat} : ∀ (c : Code) (K : Ks α) (Q : Exit → Act → World → Prop), (∀ fr s a w, St P B w0 nt ι0 s0 w1 fr s a w → K.n fr s = some r → Q .normal a w) → (∀ id fr s a w, St P B w0 nt ι0 s0 w1 fr s a w → K.x id fr s = some r → Q (.exit id) a w) →
    (∀ fr s a w, St P B w0 nt ι0 s0 w1 fr s a w → K.r fr s = some r → Q .ret a w) → ∀ fr s a w, St P B w0 nt ι0 s0 w1 fr s a w → exec P call fuel nt c K fr s = some r → c.wp P Q a w := by
  intro c
  induction c with
  | skip => intro K Q hn hx hr fr s a w hS h; exact wp_skip (hn fr s a w hS h)
  | region id ops draw =>
    intro K Q hn hx hr fr s a w hS h
    cases draw
    · exact wp_region_list (execOps_sound hB hC hn ops.toList fr s a w hS h)
    · simp only [exec, forceL_eq, forceRows_eq, CheckFast.beforeF_eq] at h
      cases hok : drawOk P ops (ops.toList.map (rowOf P ops)) (Region.before ops).toList
      · rw [hok] at h
        simp only at h
        cases hok2 : drawOk P ops (ops.toList.map (rowOf2 P ops)) (Region.before ops).toList
        · rw [hok2] at h; cases h
        · rw [hok2] at h
          exact hDQ hok2 hn fr s a w hS (by simpa using h)
      · rw [hok] at h
        exact hD hok hn fr s a w hS (by simpa using h)
  | seq x y ihx ihy =>
    intro K Q hn hx hr fr s a w hS h
    refine wp_seq (ihx ⟨exec P call fuel nt y K, K.x, K.r⟩ (Exit.then (y.wp P Q) Q) (fun fr s a w hS h => ?_) (fun id fr s a w hS h => hx id fr s a w hS h) (fun fr s a w hS h => hr fr s a w hS h) fr s a w hS h)
    exact ihy K Q hn hx hr fr s a w hS h
  | cond c x y ihx ihy =>
    intro K Q hn hx hr fr s a w hS h
    obtain ⟨ι, hF, hW, hL⟩ := hS
    have hv := hF.eval hW c
    simp only [exec] at h
    unfold aIf at h
    split at h
    · rename_i t ht
      rw [ht] at hv
      have hc : a.eval c = .bool t := by generalize a.eval c = q at hv; cases hv; rfl
      refine wp_cond hc ?_
      cases t
      · exact ihy K Q hn hx hr fr s a w ⟨ι, hF, hW, hL⟩ (by simpa using h)
      · exact ihx K Q hn hx hr fr s a w ⟨ι, hF, hW, hL⟩ (by simpa using h)
    · cases h
  | block id b ih =>
    intro K Q hn hx hr fr s a w hS h
    refine wp_block (ih ⟨K.n, fun j => if j = id then K.n else K.x j, K.r⟩ (Exit.inBlock id Q) (fun fr s a w hS h => hn fr s a w hS h) (fun j fr s a w hS h => ?_) (fun fr s a w hS h => hr fr s a w hS h) fr s a w hS h)
    simp only [Exit.inBlock]
    by_cases e : j = id
    · rw [if_pos e]; simp only [if_pos e] at h; exact hn fr s a w hS h
    · rw [if_neg e]; simp only [if_neg e] at h; exact hx j fr s a w hS h
  | loop b ih =>
    intro K Q hn hx hr fr s a w hS h
    refine wp_loop_ghost (fun n a w => ∃ fr s, St P B w0 nt ι0 s0 w1 fr s a w ∧ loopN (fun rec => exec P call fuel nt b ⟨rec, K.x, K.r⟩) n fr s = some r) fuel ⟨fr, s, hS, h⟩ ?_
    intro n a w ⟨fr, s, hS, h⟩
    cases n with
    | zero => simp [loopN] at h
    | succ n =>
      exact ih ⟨loopN (fun rec => exec P call fuel nt b ⟨rec, K.x, K.r⟩) n, K.x, K.r⟩ (Exit.then (fun a' w' => ∃ n', n' < n + 1 ∧ ∃ fr s, St P B w0 nt ι0 s0 w1 fr s a' w' ∧ loopN (fun rec => exec P call fuel nt b ⟨rec, K.x, K.r⟩) n' fr s = some r) Q) (fun fr s a w hS h => ⟨n, Nat.lt_succ_self n, fr, s, hS, h⟩) (fun id fr s a w hS h => hx id fr s a w hS h) (fun fr s a w hS h => hr fr s a w hS h) fr s a w hS h
  | exit id => intro K Q hn hx hr fr s a w hS h; exact wp_exit (hx id fr s a w hS h)
  | ret => intro K Q hn hx hr fr s a w hS h; exact wp_ret (hr fr s a w hS h)
  | _ => intro K Q hn hx hr fr s a w hS h; simp [exec] at h

/-! ### what a function returns -/
def rvRun (tmps : Array Value) : ResultVar → Sem Value
  | .tmp t => pure (tmps.getD t undef)
  | .cell p t => do loadVar t (← asAddr (tmps.getD p undef))

theorem result_sound {rv : ResultVar} {fr : Fr} {a : Act} {f : AV → Option α} (h : aResult P fr s rv f = some r) (hF : FR nt ι s w fr a) (hW : WR B w0 ι s w) :
    ∃ v v', f v = some r ∧ (rvRun a.tmps rv).run P w = .ok v' w ∧ VR ι s w v v' := by
  cases rv with
  | tmp t => exact ⟨_, _, h, rfl, hF.val t⟩
  | cell p t =>
    obtain ⟨v, v', k1, k2, k3⟩ := load_sound (P := P) (κ := fun v _ => f v) h (hF.val p) hW
    refine ⟨v, v', k1, ?_, k3⟩
    simp only [rvRun, Sem.run_bind]
    simp only [Instr.loadAt, Sem.run_bind] at k2
    generalize hq : a.tmps.getD p undef = q at k2
    cases q with
    | pointer o =>
      cases o with
      | none => simp [Instr.sureAddr] at k2
      | some ad => simpa [Instr.sureAddr, asAddr] using k2
    | _ => simp [Instr.sureAddr] at k2

theorem results_list : ∀ {rs : List ResultVar} {fr : Fr} {a : Act} {f : List AV → Option α}, aResults P fr s rs f = some r → FR nt ι s w fr a → WR B w0 ι s w →
    ∃ vs vs', f vs = some r ∧ (rs.mapM (rvRun a.tmps)).run P w = .ok vs' w ∧ VRs ι s w vs vs'
  | [], fr, a, f, h, hF, hW => ⟨[], [], h, rfl, .nil _ _ _⟩
  | rv :: rs, fr, a, f, h, hF, hW => by
    simp only [aResults] at h
    obtain ⟨v, v', k1, k2, k3⟩ := result_sound h hF hW
    obtain ⟨vs, vs', g1, g2, g3⟩ := results_list k1 hF hW
    refine ⟨v :: vs, v' :: vs', g1, ?_, .cons k3 g3⟩
    rw [List.mapM_cons, Sem.run_bind, k2, Result.andThen_ok, Sem.run_bind, g2]
    rfl

theorem results_sound {fn : Func} {fr : Fr} {a : Act} {v : AV} {s' : Store} (h : retK P fn.results.toList fr s = some (v, s')) (hF : FR nt ι s w fr a) (hW : WR B w0 ι s w) : s' = s ∧ ∃ v', (results fn a.tmps).run P w = .ok v' w ∧ VR ι s w v v' := by
  unfold retK at h
  obtain ⟨vs, vs', k1, k2, k3⟩ := results_list h hF hW
  injection k1 with k1
  obtain ⟨rfl, rfl⟩ := Prod.mk.inj k1
  refine ⟨rfl, if h : vs'.toArray.size = 1 then vs'.toArray[0] else .tuple vs'.toArray, ?_, ?_⟩
  · show ((fn.results.mapM (rvRun a.tmps)) >>= fun vs => (pure (if h : vs.size = 1 then vs[0] else .tuple vs) : Sem Value)).run P w = _
    rw [Sem.run_bind, Array.mapM_eq_mapM_toList, Sem.run_map, k2]
    simp only [Result.andThen_ok, Sem.run_pure]
  · unfold tupled
    have hl := k3.1
    split
    · rename_i v
      obtain ⟨y, rfl⟩ : ∃ y, vs' = [y] := by
        match vs', hl with
        | [y], _ => exact ⟨y, rfl⟩
      exact k3.2 0 _ _ rfl rfl
    · rename_i hne
      rw [dif_neg]
      · exact k3.tup
      · intro e
        have : vs.length = 1 := by rw [hl]; simpa using e
        match vs, this with
        | [v], _ => exact hne v rfl

theorem run_bodied (P : Program) (hM : MethFine P) : ∀ k, Bodied P (run P k)
  | 0 => ⟨hM, fun g args s q h => by simp [run] at h⟩
  | k + 1 => ⟨hM, fun g args s q h => by
    unfold run at h
    split at h
    · cases h
    · rename_i fn hfn
      split at h
      · cases h
      · rename_i c hc
        split at h
        · cases h
        · rename_i hn
          exact ⟨fn, hfn, by simpa using hn, by rw [hc]; rfl⟩⟩

theorem run_sound (hM : MethFine P) (hFr : ∀ k H T, CallFr H T (run P k)) (hD : ∀ call, Bodied P call → CallOk P B w0 call → DrawSound P call B w0) (hDQ : ∀ call, Bodied P call → CallOk P B w0 call → (∀ H T, CallFr H T call) → DrawSoundQ P call B w0) : ∀ k, CallOk P B w0 (run P k)
  | 0 => fun g args s v s' ι w args' h => by simp [run] at h
  | k + 1 => fun g args s v s' ι w args' h ha hW => by
    have ih := run_sound hM hFr hD hDQ k
    unfold run at h
    split at h
    · cases h
    · rename_i fn hfn
      split at h
      · cases h
      · rename_i c hc
        split at h
        · cases h
        · split at h
          · rename_i hlen
            refine calls_of_wp hfn hc ?_
            have hl := ha.1
            simp only [Array.length_toList] at hl
            have hF : FR fn.ntmps ι s w (frOf args) { tmps := args' ++ Array.replicate (fn.ntmps - args'.size) undef, defers := [] } := by
              refine ⟨by simp; omega, rfl, fun t => ?_⟩
              unfold frOf
              by_cases ht : t < args.length
              · have e1 : args.getD t (.tuple []) = args[t] := by simp [ht]
                have e2 : (args' ++ Array.replicate (fn.ntmps - args'.size) undef).getD t undef = args'[t]'(by omega) := by
                  simp only [Array.getD_eq_getD_getElem?]
                  rw [Array.getElem?_append_left (by omega)]
                  simp [show t < args'.size by omega]
                rw [e1, e2]
                exact ha.2 t _ _ (List.getElem?_eq_getElem ht) (by simp [show t < args'.size by omega])
              · have e1 : args.getD t (.tuple []) = .tuple [] := by simp [show args.length ≤ t by omega]
                have e2 : (args' ++ Array.replicate (fn.ntmps - args'.size) undef).getD t undef = undef := by
                  simp only [Array.getD_eq_getD_getElem?]
                  rw [Array.getElem?_append_right (by omega)]
                  rw [Array.getElem?_replicate]
                  split <;> rfl
                rw [e1, e2]; exact VR.undef _ _ _
            have hfin : ∀ fr s2 a w2, St P B w0 fn.ntmps ι s w fr s2 a w2 → retK P fn.results.toList fr s2 = some (v, s') →
                a.defers = [] ∧ ∃ v', (results fn a.tmps).run P w2 = .ok v' w2 ∧ ∃ v'' ι', Ending.returned v' = .returned v'' ∧ VR ι' s' w2 v v'' ∧ WR B w0 ι' s' w2 ∧ Later ι s w ι' s' w2 := by
              intro fr s2 a w2 ⟨ι2, k1, k2, k3⟩ h
              obtain ⟨rfl, v', g1, g2⟩ := results_sound h k1 k2
              exact ⟨k1.defers, v', g1, v', ι2, rfl, g2, k2, k3⟩
            exact exec_sound (run_bodied P hM k) ih (hD _ (run_bodied P hM k) ih) (hDQ _ (run_bodied P hM k) ih (hFr k)) c (topK P fn.results.toList) _ hfin (fun id fr s a w _ h => by simp [topK] at h) hfin (frOf args) s _ w ⟨ι, hF, hW, Later.refl _ _ _⟩ h
          · cases h
end
end Go.Proofs.Ytkfdgegmahbkiaa.Sim
namespace Go.Proofs.Ytkfdgegmahbkiaa.Sim
set_option linter.unusedSimpArgs false
mutual
theorem avEq_iff : ∀ a b : AV, avEq a b = true ↔ a = b
  | .bool a, y => by cases y <;> simp [avEq]
  | .int k n, y => by cases y <;> simp [avEq]
  | .str ⟨⟨a⟩⟩, y => by cases y <;> simp [avEq] ; rename_i x; obtain ⟨⟨b⟩⟩ := x; simp
  | .ptr l o e, y => by cases y <;> simp [avEq, and_assoc]
  | .nilptr, y => by cases y <;> simp [avEq]
  | .sl l o n z e, y => by cases y <;> simp [avEq, and_assoc]
  | .nilsl, y => by cases y <;> simp [avEq]
  | .map l, y => by cases y <;> simp [avEq]
  | .nilmap, y => by cases y <;> simp [avEq]
  | .func f a b, y => by cases y <;> simp [avEq, avsEq_iff, and_assoc]
  | .nilfunc, y => by cases y <;> simp [avEq]
  | .iface f a, y => by cases y <;> simp [avEq, avEq_iff a]
  | .meth n a, y => by cases y <;> simp [avEq, avEq_iff a]
  | .nilif, y => by cases y <;> simp [avEq]
  | .agg a, y => by cases y <;> simp [avEq, avsEq_iff]
  | .tuple a, y => by cases y <;> simp [avEq, avsEq_iff]
  | .junk, y => by cases y <;> simp [avEq]
theorem avsEq_iff : ∀ a b : List AV, avEq.avsEq a b = true ↔ a = b
  | [], b => by cases b <;> simp [avEq.avsEq]
  | x :: a, b => by cases b <;> simp [avEq.avsEq, avEq_iff x, avsEq_iff a]
end
theorem aSame_self {α : Type} (v : AV) (x : Option α) : aSame v v x = x := by unfold aSame; rw [(avEq_iff v v).2 rfl]; rfl
section
variable {P : Program} {call : CallA} {s : Store} {β : Type}

/-! ### what an operation waits for -/
theorem fold_bits (g : Nat → Nat) (i : Nat) : ∀ (l : List Edge) (x : Nat), (l.foldl (fun s e => if Region.binds .any e then s ||| 2 ^ e.on ||| g e.on else s) x).testBit i = true →
    x.testBit i = true ∨ ∃ e ∈ l, Region.binds .any e = true ∧ (e.on = i ∨ (g e.on).testBit i = true)
  | [], x, h => .inl h
  | e :: l, x, h => by
    rw [List.foldl_cons] at h
    rcases fold_bits g i l _ h with h | ⟨e', he, h1, h2⟩
    · split at h
      · rename_i hb
        rw [Nat.testBit_or, Nat.testBit_or, Bool.or_eq_true, Bool.or_eq_true] at h
        rcases h with (h | h) | h
        · exact .inl h
        · refine .inr ⟨e, List.mem_cons_self, hb, .inl ?_⟩
          rw [Nat.testBit_two_pow] at h
          simpa using h
        · exact .inr ⟨e, List.mem_cons_self, hb, .inr h⟩
      · exact .inl h
    · exact .inr ⟨e', List.mem_cons_of_mem _ he, h1, h2⟩

theorem before_list : ∀ (l pre : List Oper) (acc : Array Nat), acc.size = pre.length →
    (∀ j i, j < pre.length → (acc.getD j 0).testBit i = true → ∃ o, pre[j]? = some o ∧ ∃ e ∈ o.after.toList, Region.binds .any e = true ∧ (e.on = i ∨ (e.on < j ∧ (acc.getD e.on 0).testBit i = true))) →
    ∀ j i, j < (pre ++ l).length → (((l.foldl (fun acc o => acc.push (o.after.foldl (fun s e => if Region.binds .any e then s ||| 2 ^ e.on ||| acc.getD e.on 0 else s) 0)) acc) : Array Nat).getD j 0).testBit i = true →
      ∃ o, (pre ++ l)[j]? = some o ∧ ∃ e ∈ o.after.toList, Region.binds .any e = true ∧ (e.on = i ∨ (e.on < j ∧ ((l.foldl (fun acc o => acc.push (o.after.foldl (fun s e => if Region.binds .any e then s ||| 2 ^ e.on ||| acc.getD e.on 0 else s) 0)) acc : Array Nat).getD e.on 0).testBit i = true))
  | [], pre, acc, _, h, j, i, hj, hb => by simpa using h j i (by simpa using hj) hb
  | o :: l, pre, acc, hs, h, j, i, hj, hb => by
    rw [List.foldl_cons] at hb ⊢
    have e : pre ++ o :: l = (pre ++ [o]) ++ l := by simp
    rw [e] at hj ⊢
    refine before_list l (pre ++ [o]) _ (by simp [hs]) ?_ j i hj hb
    intro j i hj hb
    simp only [List.length_append, List.length_cons, List.length_nil] at hj
    have old : ∀ q, q < acc.size → (acc.push (o.after.foldl (fun s e => if Region.binds .any e then s ||| 2 ^ e.on ||| acc.getD e.on 0 else s) 0)).getD q 0 = acc.getD q 0 := by
      intro q hq
      simp only [Array.getD_eq_getD_getElem?, Array.getElem?_push, if_neg (show ¬ q = acc.size by omega)]
    by_cases hj2 : j < pre.length
    · rw [old j (by omega)] at hb
      obtain ⟨o', h1, e', h2, h3, h4⟩ := h j i hj2 hb
      refine ⟨o', by rw [List.getElem?_append_left hj2]; exact h1, e', h2, h3, ?_⟩
      rcases h4 with h4 | ⟨h4, h5⟩
      · exact .inl h4
      · exact .inr ⟨h4, by rw [old _ (by omega)]; exact h5⟩
    · have hj3 : j = pre.length := by omega
      subst hj3
      have hb2 : ((o.after.foldl (fun s e => if Region.binds .any e then s ||| 2 ^ e.on ||| acc.getD e.on 0 else s) 0)).testBit i = true := by
        simpa only [Array.getD_eq_getD_getElem?, Array.getElem?_push, ← hs, if_pos, Option.getD_some] using hb
      rw [← Array.foldl_toList] at hb2
      rcases fold_bits (fun q => acc.getD q 0) i _ 0 hb2 with h0 | ⟨e', h2, h3, h4⟩
      · simp at h0
      · refine ⟨o, by simp, e', h2, h3, ?_⟩
        rcases h4 with h4 | h4
        · exact .inl h4
        · have hlt : e'.on < acc.size := by
            rcases Nat.lt_or_ge e'.on acc.size with h' | h'
            · exact h'
            · simp [Array.getD_eq_getD_getElem?, Array.getElem?_eq_none h'] at h4
          exact .inr ⟨by omega, by rw [old _ hlt]; exact h4⟩

theorem before_spec (ops : Array Oper) {j i : Nat} (hb : ((Region.before ops).getD j 0).testBit i = true) :
    ∃ o, ops[j]? = some o ∧ ∃ e ∈ o.after.toList, Region.binds .any e = true ∧ (e.on = i ∨ (e.on < j ∧ ((Region.before ops).getD e.on 0).testBit i = true)) := by
  have key := before_list ops.toList [] #[] rfl (fun j i hj => by simp at hj) j i
  have hsz : ∀ (l : List Oper) (acc : Array Nat), (l.foldl (fun acc o => acc.push (o.after.foldl (fun s e => if Region.binds .any e then s ||| 2 ^ e.on ||| acc.getD e.on 0 else s) 0)) acc : Array Nat).size = acc.size + l.length := by
    intro l
    induction l with
    | nil => intro acc; rfl
    | cons o l ih => intro acc; rw [List.foldl_cons, ih]; simp; omega
  have e : Region.before ops = (ops.toList.foldl (fun acc o => acc.push (o.after.foldl (fun s e => if Region.binds .any e then s ||| 2 ^ e.on ||| acc.getD e.on 0 else s) 0)) #[] : Array Nat) := by
    unfold Region.before
    rw [← Array.foldl_toList]
  rw [e] at hb ⊢
  have hj : j < ops.size := by
    rcases Nat.lt_or_ge j ops.size with h' | h'
    · exact h'
    · have : ((ops.toList.foldl (fun acc o => acc.push (o.after.foldl (fun s e => if Region.binds .any e then s ||| 2 ^ e.on ||| acc.getD e.on 0 else s) 0)) #[] : Array Nat).getD j 0) = 0 := by
        rw [Array.getD_eq_getD_getElem?, Array.getElem?_eq_none (by rw [hsz]; simpa using h')]
        rfl
      rw [this] at hb
      simp at hb
  obtain ⟨o, h1, h2⟩ := key (by simpa using hj) hb
  exact ⟨o, by simpa using h1, h2⟩

/-! ### naturality -/
theorem aPick_nat (c a b : AV) (κ : AV → Option β) : aPick c a b κ = (aPick c a b some).bind κ := by unfold aPick; split <;> rfl
theorem aCells_nat (x : AV) (κ : List AV → Option β) : aCells x κ = (aCells x some).bind κ := by unfold aCells; split <;> rfl
theorem aBuild_nat : ∀ (ps : List (Nat × Nat × AV)) (cs : List AV) (κ : List AV → Option β), aBuild ps cs κ = (aBuild ps cs some).bind κ
  | [], cs, κ => rfl
  | (off, size, x) :: ps, cs, κ => by
    have e1 := aCells_nat x (fun vs => if vs.length = size ∧ off + size ≤ cs.length then aBuild ps (putAll cs off vs) κ else none)
    have e2 := aCells_nat x (fun vs => if vs.length = size ∧ off + size ≤ cs.length then aBuild ps (putAll cs off vs) some else none)
    simp only [aBuild]
    rw [e1, e2]
    cases aCells x some with
    | none => rfl
    | some vs =>
      simp only [Option.bind_some]
      split
      · exact aBuild_nat ps _ κ
      · rfl
theorem aNilCheck_nat (x : AV) (κ : AV → Option β) : aNilCheck x κ = (aNilCheck x some).bind κ := by unfold aNilCheck; split <;> first | rfl | (split <;> rfl)
theorem aShift_nat (op : BinOp) (x y : AV) (κ : AV → Option β) : aShift op x y κ = (aShift op x y some).bind κ := by
  unfold aShift; split
  · split
    · rfl
    · split <;> rfl
  · rfl
theorem aBin_nat (op : BinOp) (x y : AV) (κ : AV → Option β) : aBin op x y κ = (aBin op x y some).bind κ := by
  unfold aBin; split
  · split
    · split <;> rfl
    · rfl
  · split <;> rfl
  · rfl
theorem aEq_nat (e : EK) (x y : AV) (κ : Bool → Option β) : aEq e x y κ = (aEq e x y some).bind κ := by
  unfold aEq; split <;> first | rfl | (split <;> rfl)
theorem aUn_nat (op : UnOp) (x : AV) (κ : AV → Option β) : aUn op x κ = (aUn op x some).bind κ := by unfold aUn; split <;> rfl
theorem aConvInt_nat (k : IntKind) (x : AV) (κ : AV → Option β) : aConvInt k x κ = (aConvInt k x some).bind κ := by unfold aConvInt; split <;> rfl
theorem aStr_nat (x : AV) (κ : ByteArray → Option β) : aStr x κ = (aStr x some).bind κ := by unfold aStr; split <;> rfl
theorem aSliceSl_nat (es : Nat) (x : AV) (lo hi : Option AV) (κ : AV → Option β) : aSliceSl es x lo hi κ = (aSliceSl es x lo hi some).bind κ := by
  unfold aSliceSl
  cases lo <;> cases hi <;> simp only [aNum] <;> repeat' first | rfl | split
theorem aSliceStr_nat (x : AV) (lo hi : Option AV) (κ : AV → Option β) : aSliceStr x lo hi κ = (aSliceStr x lo hi some).bind κ := by
  unfold aSliceStr
  cases lo <;> cases hi <;> simp only [aNum] <;> repeat' first | rfl | split
theorem aSliceArr_nat (len es : Nat) (x : AV) (lo hi : Option AV) (κ : AV → Option β) : aSliceArr len es x lo hi κ = (aSliceArr len es x lo hi some).bind κ := by
  unfold aSliceArr
  cases lo <;> cases hi <;> simp only [aNum] <;> repeat' first | rfl | split
theorem aFieldAddr_nat (off : Nat) (x : AV) (κ : AV → Option β) : aFieldAddr off x κ = (aFieldAddr off x some).bind κ := by unfold aFieldAddr; split <;> rfl
theorem aField1_nat (off : Nat) (x : AV) (κ : AV → Option β) : aField1 off x κ = (aField1 off x some).bind κ := by unfold aField1; split <;> first | rfl | (split <;> rfl)
theorem aFieldN_nat (off n : Nat) (x : AV) (κ : AV → Option β) : aFieldN off n x κ = (aFieldN off n x some).bind κ := by unfold aFieldN; split <;> rfl
theorem aIndexSl_nat (es : Nat) (x i : AV) (κ : AV → Option β) : aIndexSl es x i κ = (aIndexSl es x i some).bind κ := by
  unfold aIndexSl; split
  · split
    · split
      · split <;> rfl
      · rfl
    · rfl
  · rfl
theorem aIndexArr_nat (len es : Nat) (x i : AV) (κ : AV → Option β) : aIndexArr len es x i κ = (aIndexArr len es x i some).bind κ := by
  unfold aIndexArr; split
  · split
    · split <;> rfl
    · rfl
  · rfl
theorem aIndexStr_nat (x i : AV) (κ : AV → Option β) : aIndexStr x i κ = (aIndexStr x i some).bind κ := by
  unfold aIndexStr; split
  · split
    · split <;> rfl
    · rfl
  · rfl
theorem aIndexAgg_nat (b : Bool) (len c : Nat) (x i : AV) (κ : AV → Option β) : aIndexAgg b len c x i κ = (aIndexAgg b len c x i some).bind κ := by
  unfold aIndexAgg
  split
  · split
    · split
      · split
        · exact aFieldN_nat _ _ _ _
        · exact aField1_nat _ _ _
      · rfl
    · rfl
  · rfl
theorem aCutCap_nat (x : AV) (lo hi : Option AV) (mx : AV) (κ : AV → Option β) : aCutCap x lo hi mx κ = (aCutCap x lo hi mx some).bind κ := by
  unfold aCutCap aNum
  cases x <;> first | rfl | skip
  cases lo with
  | none =>
    cases hi with
    | none => simp only; cases mx <;> first | rfl | (simp only; split <;> rfl)
    | some h => cases h <;> first | rfl | (simp only; cases mx <;> first | rfl | (simp only; split <;> rfl))
  | some l =>
    cases l <;> first | rfl | skip
    cases hi with
    | none => simp only; cases mx <;> first | rfl | (simp only; split <;> rfl)
    | some h => cases h <;> first | rfl | (simp only; cases mx <;> first | rfl | (simp only; split <;> rfl))
theorem aExtract_nat (i : Nat) (x : AV) (κ : AV → Option β) : aExtract i x κ = (aExtract i x some).bind κ := by unfold aExtract; split <;> first | rfl | (split <;> rfl)
theorem aLen_nat (x : AV) (κ : AV → Option β) : aLen x κ = (aLen x some).bind κ := by unfold aLen; split <;> rfl
theorem aCap_nat (x : AV) (κ : AV → Option β) : aCap x κ = (aCap x some).bind κ := by unfold aCap; split <;> rfl
theorem aLenStr_nat (x : AV) (κ : AV → Option β) : aLenStr x κ = (aLenStr x some).bind κ := by unfold aLenStr; split <;> rfl
theorem aMaxL_nat : ∀ (xs : List AV) (x : AV) (κ : AV → Option β), aMaxL x xs κ = (aMaxL x xs some).bind κ
  | [], x, κ => rfl
  | y :: r, x, κ => by
    simp only [aMaxL, aMax2]
    split
    · exact aMaxL_nat r _ κ
    · rfl
theorem aMinL_nat : ∀ (xs : List AV) (x : AV) (κ : AV → Option β), aMinL x xs κ = (aMinL x xs some).bind κ
  | [], x, κ => rfl
  | y :: r, x, κ => by
    simp only [aMinL, aMin2]
    split
    · exact aMinL_nat r _ κ
    · rfl
theorem aRow_nat (l ep : Nat) (f : List AV → Option AV) (κ : AV → Option β) : (aRow l ep s fun xs => (f xs).bind κ) = (aRow l ep s f).bind κ := by unfold aRow; split <;> first | rfl | (split <;> rfl)
theorem aLoad1_nat (p : AV) (κ : AV → Option β) : aLoad1 p s κ = (aLoad1 p s some).bind κ := by
  unfold aLoad1; split
  · rw [← aRow_nat]; congr 1; funext xs; split <;> rfl
  · rfl
theorem aLoadN_nat (n : Nat) (p : AV) (κ : AV → Option β) : aLoadN n p s κ = (aLoadN n p s some).bind κ := by
  unfold aLoadN; split
  · rw [← aRow_nat]; congr 1; funext xs; split <;> rfl
  · rfl
theorem aStrOf_nat (x : AV) (κ : AV → Option β) : aStrOf x s κ = (aStrOf x s some).bind κ := by
  unfold aStrOf; split
  · rfl
  · rw [← aRow_nat]; congr 1; funext xs; split
    · split <;> rfl
    · rfl
  · rfl
theorem aLenMap_nat (x : AV) (κ : AV → Option β) : aLenMap x s κ = (aLenMap x s some).bind κ := by unfold aLenMap; split <;> first | rfl | (split <;> rfl)
theorem aAssert_nat (t : TypeId) (ok : Bool) (x : AV) (κ : AV → Option β) : aAssert P t ok x κ = (aAssert P t ok x some).bind κ := by
  unfold aAssert
  split
  · rfl
  · split
    · split
      · rfl
      · cases ok <;> rfl
    · cases ok <;> rfl
    · rfl
  · rfl
theorem aLookup_nat (kd : EK) (z : AV) (ok : Bool) (m key : AV) (κ : AV → Option β) : aLookup kd z ok m key s κ = (aLookup kd z ok m key s some).bind κ := by
  unfold aLookup aFind
  repeat' first | rfl | split
  all_goals (rename_i q _; cases q <;> rfl)

theorem leaf (F : ∀ {β : Type}, (AV → Option β) → Option β) (hF : ∀ {β : Type} (κ : AV → Option β), F κ = (F some).bind κ) (s s0 : Store) : F (fun v => pairK v s) = ((F (fun v => pairK v s0)).map (·.1)).bind (fun v => pairK v s) := by
  rw [hF (fun v => pairK v s), hF (fun v => pairK v s0)]
  cases F some <;> rfl

theorem leaf_eq (f : Bool → AV) (e : EK) (x y : AV) (s s0 : Store) : aEq e x y (fun b => pairK (f b) s) = ((aEq e x y (fun b => pairK (f b) s0)).map (·.1)).bind (fun v => pairK v s) := by
  rw [aEq_nat e x y (fun b => pairK (f b) s), aEq_nat e x y (fun b => pairK (f b) s0)]
  cases aEq e x y some <;> rfl
theorem leaf_str (x : AV) (s s0 : Store) : aStr x (fun b => pairK (.str b) s) = ((aStr x (fun b => pairK (.str b) s0)).map (·.1)).bind (fun v => pairK v s) := by
  rw [aStr_nat x (fun b => pairK (.str b) s), aStr_nat x (fun b => pairK (.str b) s0)]
  cases aStr x some <;> rfl
theorem leaf_build (ps : List (Nat × Nat × AV)) (cs : List AV) (s s0 : Store) : aBuild ps cs (fun b => pairK (.agg b) s) = ((aBuild ps cs (fun b => pairK (.agg b) s0)).map (·.1)).bind (fun v => pairK v s) := by
  rw [aBuild_nat ps cs (fun b => pairK (.agg b) s), aBuild_nat ps cs (fun b => pairK (.agg b) s0)]
  cases aBuild ps cs some <;> rfl

/-- The store plays no part. -/
theorem pure_nat {ρ : Operand → AV} {o : Oper} (hp : opPure P o.op = true) (s s0 : Store) : aop P call ρ o s pairK = ((aop P call ρ o s0 pairK).map (·.1)).bind (fun v => pairK v s) := by
  unfold aop
  cases hop : o.op <;> rw [hop] at hp <;> simp only [opPure, Bool.false_eq_true] at hp <;> try simp only
  case move x => rfl
  case assign x => rfl
  case pick c a b => exact leaf (fun κ => aPick (ρ c) (ρ a) (ρ b) κ) (fun κ => aPick_nat _ _ _ κ) s s0
  case build t parts =>
    split
    · split
      · exact leaf_build _ _ s s0
      · rfl
    · rfl
  case nilCheck x => exact leaf (fun κ => aNilCheck (ρ x) κ) (fun κ => aNilCheck_nat _ κ) s s0
  case binOp op t x y ty =>
    split
    · exact leaf (fun κ => aShift .shl (ρ x) (ρ y) κ) (fun κ => aShift_nat _ _ _ κ) s s0
    · exact leaf (fun κ => aShift .shr (ρ x) (ρ y) κ) (fun κ => aShift_nat _ _ _ κ) s s0
    · split
      · exact leaf (fun κ => aBin _ (ρ x) (ρ y) κ) (fun κ => aBin_nat _ _ _ κ) s s0
      · exact leaf (fun κ => aBin _ (ρ x) (ρ y) κ) (fun κ => aBin_nat _ _ _ κ) s s0
      · split
        · exact leaf_eq (fun b => .bool b) _ _ _ s s0
        · exact leaf_eq (fun b => .bool (!b)) _ _ _ s s0
        · rfl
      · rfl
  case unOp op t x => exact leaf (fun κ => aUn op (ρ x) κ) (fun κ => aUn_nat _ _ κ) s s0
  case convert src dst x =>
    split
    · rename_i k _ _; exact leaf (fun κ => aConvInt k (ρ x) κ) (fun κ => aConvInt_nat _ _ κ) s s0
    · exact leaf_str _ s s0
    · rename_i h1 h2; rw [h1, h2] at hp; simp at hp
    · rename_i h1 h2; rw [h1, h2] at hp; simp at hp
    · rename_i h1 h2; rw [h1, h2] at hp; simp at hp
    · rfl
  case makeInterface t x => split <;> rfl
  case makeFunc f a b => split <;> first | rfl | (split <;> rfl) | (simp_all; done) | (simp_all; split <;> rfl)
  case slice t x lo hi mx =>
    cases mx with
    | some m =>
      simp only
      split
      · split
        · exact leaf (fun κ => aCutCap (ρ x) (lo.map ρ) (hi.map ρ) (ρ m) κ) (fun κ => aCutCap_nat _ _ _ _ κ) s s0
        · rfl
      · rfl
    | none =>
      simp only
      split
      · exact leaf (fun κ => aSliceStr (ρ x) (lo.map ρ) (hi.map ρ) κ) (fun κ => aSliceStr_nat _ _ _ κ) s s0
      · split
        · exact leaf (fun κ => aSliceSl _ (ρ x) (lo.map ρ) (hi.map ρ) κ) (fun κ => aSliceSl_nat _ _ _ _ κ) s s0
        · rfl
      · split
        · exact leaf (fun κ => aSliceArr _ _ (ρ x) (lo.map ρ) (hi.map ρ) κ) (fun κ => aSliceArr_nat _ _ _ _ _ κ) s s0
        · rfl
      · rfl
  case fieldAddr t x i =>
    split
    · split
      · split
        · split
          · exact leaf (fun κ => aFieldAddr _ (ρ x) κ) (fun κ => aFieldAddr_nat _ _ κ) s s0
          · rfl
        · rfl
      · rfl
    · rfl
  case field t x i =>
    split
    · split
      · split
        · exact leaf (fun κ => aFieldN _ _ (ρ x) κ) (fun κ => aFieldN_nat _ _ _ κ) s s0
        · exact leaf (fun κ => aField1 _ (ρ x) κ) (fun κ => aField1_nat _ _ κ) s s0
        · rfl
      · rfl
    · rfl
  case indexAddr t x i =>
    split
    · split
      · exact leaf (fun κ => aIndexSl _ (ρ x) (ρ i) κ) (fun κ => aIndexSl_nat _ _ _ κ) s s0
      · rfl
    · split
      · exact leaf (fun κ => aIndexArr _ _ (ρ x) (ρ i) κ) (fun κ => aIndexArr_nat _ _ _ _ κ) s s0
      · rfl
    · rfl
  case index t x i =>
    split
    · exact leaf (fun κ => aIndexStr (ρ x) (ρ i) κ) (fun κ => aIndexStr_nat _ _ κ) s s0
    · split
      · exact leaf (fun κ => aIndexAgg _ _ _ (ρ x) (ρ i) κ) (fun κ => aIndexAgg_nat _ _ _ _ _ κ) s s0
      · rfl
    · rfl
  case extract x i => exact leaf (fun κ => aExtract i (ρ x) κ) (fun κ => aExtract_nat _ _ κ) s s0
  case call c =>
    generalize c.args.toList.map ρ = xs
    generalize c.argTypes.toList = ts at hp ⊢
    split at hp
    · rename_i hc
      rw [hc]
      simp only
      cases ts with
      | nil => simp at hp
      | cons t tr =>
        simp only [List.head?_cons, Option.bind_some] at hp
        cases xs with
        | nil => simp [aBuiltin]
        | cons x xr =>
          simp only [aBuiltin]
          split
          · exact leaf (fun κ => aLenStr x κ) (fun κ => aLenStr_nat _ κ) s s0
          · exact leaf (fun κ => aLen x κ) (fun κ => aLen_nat _ κ) s s0
          · rfl
          · rename_i hu; rw [hu] at hp; simp at hp
          · rfl
    · rename_i hc
      rw [hc]
      simp only
      cases xs with
      | nil => simp [aBuiltin]
      | cons x xr => simp only [aBuiltin]; exact leaf (fun κ => aMaxL x xr κ) (fun κ => aMaxL_nat _ _ κ) s s0
    · rename_i hc
      rw [hc]
      simp only
      cases xs with
      | nil => simp [aBuiltin]
      | cons x xr => simp only [aBuiltin]; exact leaf (fun κ => aMinL x xr κ) (fun κ => aMinL_nat _ _ κ) s s0
    · cases hp

theorem pure_step {ρ : Operand → AV} {o : Oper} {v : AV} {s s' : Store} (hp : opPure P o.op = true) (h : aop P call ρ o s pairK = some (v, s')) : s' = s ∧ ∀ s2, aop P call ρ o s2 pairK = some (v, s2) := by
  rw [pure_nat hp s s] at h
  cases hC : (aop P call ρ o s pairK).map (·.1) with
  | none => rw [hC] at h; cases h
  | some u =>
    rw [hC] at h
    simp only [Option.bind_some, pairK, Option.some.injEq, Prod.mk.injEq] at h
    exact ⟨h.2.symm, fun s2 => by rw [pure_nat hp s2 s, hC, Option.bind_some, h.1]; rfl⟩

/-- A reader leaves the store. -/
theorem read_step {ρ : Operand → AV} {o : Oper} {v : AV} {s s' : Store} (hp : opRead P o.op = true) (h : aop P call ρ o s pairK = some (v, s')) : s' = s := by
  have fin : ∀ {C : Option AV}, (C.bind fun v => pairK v s) = some (v, s') → s' = s := fun h => by
    rename_i C
    cases C with
    | none => cases h
    | some u =>
      simp only [Option.bind_some, pairK, Option.some.injEq, Prod.mk.injEq] at h
      exact h.2.symm
  unfold aop at h
  cases hop : o.op <;> rw [hop] at hp h <;> simp only [opRead, Bool.false_eq_true] at hp <;> try simp only at h
  case load t a =>
    split at h
    · rw [aLoadN_nat] at h; exact fin h
    · rw [aLoad1_nat] at h; exact fin h
    · cases h
  case lookup t m k ok =>
    split at h
    · split at h
      · split at h
        · rw [aLookup_nat] at h; exact fin h
        · cases h
      · cases h
    · cases h
  case convert src dst x =>
    split at h
    · rename_i h1 h2; rw [h1, h2] at hp; simp at hp
    · rename_i h1 h2; rw [h1, h2] at hp; simp at hp
    · rename_i h1 h2; rw [h1, h2] at hp; simp at hp
    · split at h
      · rw [aStrOf_nat] at h; exact fin h
      · cases h
    · rename_i h1 h2; rw [h1, h2] at hp; simp at hp
    · cases h
  case call c =>
    generalize c.args.toList.map ρ = xs at h
    generalize c.argTypes.toList = ts at hp h
    split at hp
    · rename_i hc
      rw [hc] at h
      simp only at h
      cases ts with
      | nil => simp at hp
      | cons t tr =>
        simp only [List.head?_cons, Option.bind_some] at hp
        cases xs with
        | nil => simp [aBuiltin] at h
        | cons x xr =>
          simp only [aBuiltin] at h
          split at h
          · rename_i hu; rw [hu] at hp; simp at hp
          · rename_i hu; rw [hu] at hp; simp at hp
          · rename_i hu; rw [hu] at hp; simp at hp
          · rw [aLenMap_nat] at h; exact fin h
          · cases h
    · cases hp

/-! ### operands -/
theorem parts_congr {pl : Nat → Option (Nat × Nat)} {ρ ρ' : Operand → AV} : ∀ (l : List (Nat × Operand)), (∀ p ∈ l, ρ p.2 = ρ' p.2) → partsOf pl ρ l = partsOf pl ρ' l
  | [], _ => rfl
  | p :: l, h => by
    simp only [partsOf]
    rw [parts_congr l (fun q hq => h q (List.mem_cons_of_mem _ hq)), h p List.mem_cons_self]

theorem aop_congr {α : Type} {ρ ρ' : Operand → AV} {κ : AV → Store → Option α} (o : Oper) (h : ∀ x ∈ o.op.operands, ρ x = ρ' x) : aop P call ρ o s κ = aop P call ρ' o s κ := by
  unfold aop
  cases hop : o.op <;> rw [hop] at h <;> simp only [Op.operands] at h <;> try simp only
  case build t ps =>
    have : ∀ pl, partsOf pl ρ ps.toList = partsOf pl ρ' ps.toList := fun pl => parts_congr _ fun p hp => h p.2 (by simpa using ⟨p.1, by simpa using hp⟩)
    simp only [this]
  case buildSlice t n ps =>
    have : ∀ c : Nat, (ps.toList.map fun p => (p.1 * c, c, ρ p.2)) = (ps.toList.map fun p => (p.1 * c, c, ρ' p.2)) := fun c => List.map_congr_left fun p hp => by rw [h p.2 (by simpa using ⟨p.1, by simpa using hp⟩)]
    simp only [this]
  case makeFunc fn first cap =>
    have e1 : first.toList.map ρ = first.toList.map ρ' := List.map_congr_left fun x hx => h x (by simp; exact .inl (by simpa using hx))
    have e2 : cap.toList.map ρ = cap.toList.map ρ' := List.map_congr_left fun x hx => h x (by simp; exact .inr (by simpa using hx))
    cases fn <;> simp only [e1, e2]
  case call c =>
    have e1 : c.args.toList.map ρ = c.args.toList.map ρ' := List.map_congr_left fun x hx => h x (by simp [Call.operands]; exact .inr (by simpa using hx))
    rw [e1]
    cases hc : c.callee with
    | value f => have : ρ f = ρ' f := h f (by simp [Call.operands, hc]); simp only [this]
    | builtin b => rfl
    | invoke a b => have : ρ a = ρ' a := h a (by simp [Call.operands, hc]); simp only [this]
  case slice t x lo hi mx =>
    cases lo <;> cases hi <;> cases mx <;> simp_all
  case makeMap t r => cases r <;> rfl
  all_goals first | rfl | (simp_all; done) | (rename_i a1 a2 a3 a4; cases a4 <;> simp_all; done) | skip
end
end Go.Proofs.Ytkfdgegmahbkiaa.Sim
namespace Go.Proofs.Ytkfdgegmahbkiaa.Sim
open Go.RowKit (Below)
set_option linter.unusedSimpArgs false
section
variable {P : Program} {call : CallA} {B : Nat} {w0 : World} {ι : Nat → Loc} {s : Store} {w : World} {α : Type} {r : α} {nt : Nat} {ops : Array Oper}

theorem stepA_congr {fr fr' : Fr} {o : Oper} (h : ∀ t ∈ looks ops o, fr t = fr' t) (s : Store) : stepA P call ops fr o s = stepA P call ops fr' o s := by
  have hop : ∀ x ∈ o.op.operands, evalA fr x = evalA fr' x := by
    intro x hx
    cases x with
    | tmp t => exact h t (List.mem_append_left _ (List.mem_filterMap.2 ⟨.tmp t, by simpa using hx, rfl⟩))
    | _ => rfl
  unfold stepA
  cases hg : o.guard with
  | none => exact aop_congr o hop
  | some jw =>
    obtain ⟨j, want⟩ := jw
    simp only
    cases ht : (ops[j]?).bind (·.dst) with
    | none => rfl
    | some t =>
      have : fr t = fr' t := h t (List.mem_append_right _ (by simp only [hg]; rw [ht]; simp))
      simp only [this, aop_congr o hop]

theorem guard_use {v : AV} {want : Bool} {x : Option (AV × Store)} {q q' : AV × Store} (h : aGuard v want x (some q) = some q') : (v = .bool want ∧ x = some q') ∨ (v ≠ .bool want ∧ q' = q ∧ ∀ x y, aGuard v want x y = (y : Option (AV × Store))) := by
  unfold aGuard at h
  split at h
  · rename_i b
    split at h
    · rename_i e; subst e; exact .inl ⟨rfl, h⟩
    · rename_i e
      refine .inr ⟨fun q => e (by injection q), (Option.some.inj h).symm, fun x y => ?_⟩
      simp [aGuard, e]
  · exact .inr ⟨(by simp), (Option.some.inj h).symm, fun x y => rfl⟩
  · cases h

/-- An operation that only reckons. -/
theorem stepA_pure {fr : Fr} {o : Oper} {v : AV} {s s' : Store} (hp : opPure P o.op = true) (h : stepA P call ops fr o s = some (v, s')) : s' = s ∧ ∀ s2, stepA P call ops fr o s2 = some (v, s2) := by
  unfold stepA at h ⊢
  cases hg : o.guard with
  | none => rw [hg] at h; exact pure_step hp h
  | some jw =>
    obtain ⟨j, want⟩ := jw
    rw [hg] at h
    simp only at h ⊢
    cases ht : (ops[j]?).bind (·.dst) with
    | none => rw [ht] at h; cases h
    | some t =>
      rw [ht] at h
      simp only at h ⊢
      rcases guard_use h with ⟨h1, h2⟩ | ⟨h1, h2, h3⟩
      · obtain ⟨k1, k2⟩ := pure_step hp h2
        exact ⟨k1, fun s2 => by rw [h1]; simp [aGuard, k2]⟩
      · obtain ⟨rfl, rfl⟩ := Prod.mk.inj h2
        exact ⟨rfl, fun s2 => h3 _ _⟩
theorem stepA_read {fr : Fr} {o : Oper} {v : AV} {s s' : Store} (hp : opRead P o.op = true) (h : stepA P call ops fr o s = some (v, s')) : s' = s := by
  unfold stepA at h
  cases hg : o.guard with
  | none => rw [hg] at h; exact read_step hp h
  | some jw =>
    obtain ⟨j, want⟩ := jw
    rw [hg] at h
    simp only at h
    cases ht : (ops[j]?).bind (·.dst) with
    | none => rw [ht] at h; cases h
    | some t =>
      rw [ht] at h
      simp only at h
      rcases guard_use h with ⟨h1, h2⟩ | ⟨h1, h2, h3⟩
      · exact read_step hp h2
      · exact (Prod.mk.inj h2).2
theorem stepA_keeps {fr : Fr} {o : Oper} {v : AV} {s s' : Store} (hp : opWrite P o.op = false) (h : stepA P call ops fr o s = some (v, s')) : s' = s := by
  unfold opWrite at hp
  cases h1 : opPure P o.op
  · rw [h1] at hp
    cases h2 : opRead P o.op
    · rw [h2] at hp; simp at hp
    · exact stepA_read h2 h
  · exact (stepA_pure h1 h).1

theorem sames_use : ∀ {L : List (Option (AV × Store) × AV)} {x : Option α}, sames L x = some r → (∀ p ∈ L, ∃ s', p.1 = some (p.2, s')) ∧ x = some r
  | [], x, h => ⟨fun p hp => by simp at hp, h⟩
  | (c, v) :: L, x, h => by
    simp only [sames] at h
    obtain ⟨q, hq, h2⟩ := Option.bind_eq_some_iff.1 h
    unfold aSame at h2
    cases hq2 : avEq q.1 v
    · rw [hq2] at h2; cases h2
    · rw [hq2] at h2
      have e := (avEq_iff _ _).1 hq2
      obtain ⟨h3, h4⟩ := sames_use h2
      refine ⟨fun p hp => ?_, h4⟩
      rcases List.mem_cons.1 hp with rfl | hp
      · exact ⟨q.2, by rw [hq, ← e]⟩
      · exact h3 p hp

/-- The text's own order, laid out. -/
structure Tr (P : Program) (call : CallA) (nt : Nat) (ops : Array Oper) (b : Array Nat) (k n : Nat) (l : List Oper) (H : List (Nat × Oper × Store)) (v : Nat → AV) (st : Nat → Store) (fr : Nat → Fr) : Prop where
  step : ∀ (j : Nat) (o : Oper), l[j]? = some o → stepA P call ops (fr (k + j)) o (st (k + j)) = some (v (k + j), st (k + j + 1))
  put : ∀ (j : Nat) (o : Oper), l[j]? = some o → (∀ t, fr (k + j + 1) t = if o.dst = some t then v (k + j) else fr (k + j) t) ∧ ∀ d, o.dst = some d → d < nt
  chkR : ∀ (i j : Nat) (oi o : Oper), i < j → l[i]? = some oi → l[j]? = some o → opRead P o.op = true → opWrite P oi.op = true → (b.getD (k + j) 0).testBit (k + i) = false → ∃ s', stepA P call ops (fr (k + j)) o (st (k + i)) = some (v (k + j), s')
  chkW : ∀ (i j : Nat) (oi o : Oper) (d : Tmp), i < j → l[i]? = some oi → l[j]? = some o → opWrite P o.op = true → opRead P oi.op = true → (b.getD (k + j) 0).testBit (k + i) = false → oi.dst = some d → ∃ s', stepA P call ops (fr (k + j)) oi (st (k + j + 1)) = some (fr (k + j) d, s')
  hR : ∀ (j : Nat) (o : Oper), l[j]? = some o → ∀ h ∈ H, opRead P o.op = true → opWrite P h.2.1.op = true → (b.getD (k + j) 0).testBit h.1 = false → ∃ s', stepA P call ops (fr (k + j)) o h.2.2 = some (v (k + j), s')
  hW : ∀ (j : Nat) (o : Oper) (d : Tmp), l[j]? = some o → ∀ h ∈ H, opWrite P o.op = true → opRead P h.2.1.op = true → (b.getD (k + j) 0).testBit h.1 = false → h.2.1.dst = some d → ∃ s', stepA P call ops (fr (k + j)) h.2.1 (st (k + j + 1)) = some (fr (k + j) d, s')
  len : n = k + l.length

/-- A row with another first one. -/
def ins {β : Type} (k : Nat) (x : β) (f : Nat → β) : Nat → β := fun i => if i = k then x else f i
theorem ins_k {k : Nat} {β : Type} (x : β) (f : Nat → β) (j : Nat) : ins k x f (k + (j + 1)) = f (k + 1 + j) := by
  have : k + (j + 1) ≠ k := by omega
  simp only [ins, if_neg this]
  congr 1; omega
theorem ins_0 {k : Nat} {β : Type} (x : β) (f : Nat → β) : ins k x f k = x := by simp [ins]
theorem ins_k1 {k : Nat} {β : Type} (x : β) (f : Nat → β) (j : Nat) : ins k x f (k + (j + 1) + 1) = f (k + 1 + j + 1) := by
  have : k + (j + 1) + 1 ≠ k := by omega
  simp only [ins, if_neg this]
  congr 1; omega
theorem ins_01 {k : Nat} {β : Type} (x : β) (f : Nat → β) : ins k x f (k + 1) = f (k + 1) := by simp [ins]

theorem trace {b : Array Nat} {κ : Fr → Store → Option α} : ∀ (l : List Oper) (k : Nat) (H : List (Nat × Oper × Store)) (fr0 : Fr) (s0 : Store), execDraw P call nt ops b κ ((l.zipIdx k).map fun p => (p.2, p.1)) H fr0 s0 = some r →
    ∃ v st fr, st k = s0 ∧ fr k = fr0 ∧ κ (fr (k + l.length)) (st (k + l.length)) = some r ∧ Tr P call nt ops b k (k + l.length) l H v st fr
  | [], k, H, fr0, s0, h => ⟨fun _ => .junk, fun _ => s0, fun _ => fr0, rfl, rfl, h, ⟨fun j o hj => by simp at hj, fun j o hj => by simp at hj, fun i j oi o _ _ hj => by simp at hj, fun i j oi o d _ _ hj => by simp at hj, fun j o hj => by simp at hj, fun j o d hj => by simp at hj, rfl⟩⟩
  | o :: l, k, H, fr0, s0, h => by
    simp only [List.zipIdx_cons, List.map_cons, execDraw] at h
    obtain ⟨q, hq, h⟩ := Option.bind_eq_some_iff.1 h
    obtain ⟨hs, h⟩ := sames_use h
    have hput : ∃ fr1, (∀ t, fr1 t = if o.dst = some t then q.1 else fr0 t) ∧ (∀ d, o.dst = some d → d < nt) ∧ execDraw P call nt ops b κ ((l.zipIdx (k + 1)).map fun p => (p.2, p.1)) ((k, o, s0) :: H) fr1 q.2 = some r := by
      unfold aPut at h
      split at h
      · rename_i hd; exact ⟨fr0, fun t => by rw [if_neg (by rw [hd]; simp)], fun d hd2 => (by rw [hd] at hd2; cases hd2), h⟩
      · rename_i t hd
        split at h
        · rename_i ht
          refine ⟨_, fun j => ?_, fun d hd2 => (by rw [hd] at hd2; rw [← Option.some.inj hd2]; exact ht), h⟩
          unfold upd
          by_cases e : j = t
          · rw [if_pos e, if_pos (by rw [hd, e])]
          · rw [if_neg e, if_neg (by rw [hd]; intro q; exact e (Option.some.inj q).symm)]
        · cases h
    obtain ⟨fr1, hf1, hf2, h⟩ := hput
    obtain ⟨v, st, fr, e1, e2, e3, T⟩ := trace l (k + 1) _ fr1 q.2 h
    have hk := @ins_k k
    have h0 := @ins_0 k
    have hk1 := @ins_k1 k
    have h01 := @ins_01 k
    have hb : ∀ j, k + (j + 1) = k + 1 + j := fun j => by omega
    refine ⟨ins k q.1 v, ins k s0 st, ins k fr0 fr, h0 _ _, h0 _ _, ?_, ?_⟩
    · have : k + (o :: l).length = k + 1 + l.length := by simp; omega
      rw [this]
      have n1 : k + 1 + l.length ≠ k := by omega
      simp only [ins, if_neg n1]
      exact e3
    · refine ⟨fun j o' hj => ?_, fun j o' hj => ?_, fun i j oi o' hij hi hj r1 r2 r3 => ?_, fun i j oi o' d hij hi hj r1 r2 r3 r4 => ?_, fun j o' hj hh hm r1 r2 r3 => ?_, fun j o' d hj hh hm r1 r2 r3 r4 => ?_, rfl⟩
      · cases j with
        | zero =>
          obtain rfl := Option.some.inj hj
          simp only [Nat.add_zero]
          rw [h0, h0, h0, h01, e1]
          exact hq
        | succ j => rw [hk, hk, hk, hk1]; exact T.step j o' (by simpa using hj)
      · cases j with
        | zero =>
          obtain rfl := Option.some.inj hj
          simp only [Nat.add_zero]
          rw [h0, h0, h01, e2]
          exact ⟨hf1, hf2⟩
        | succ j => rw [hk, hk, hk1]; exact T.put j o' (by simpa using hj)
      · cases j with
        | zero => omega
        | succ j =>
          rw [hk, hk]
          cases i with
          | zero =>
            obtain rfl := Option.some.inj hi
            simp only [Nat.add_zero] at r3 ⊢
            rw [h0]
            exact T.hR j o' (by simpa using hj) (k, o, s0) List.mem_cons_self r1 r2 (by rw [hb] at r3; exact r3)
          | succ i =>
            rw [hk]
            exact T.chkR i j oi o' (by omega) (by simpa using hi) (by simpa using hj) r1 r2 (by rw [hb j, hb i] at r3; exact r3)
      · cases j with
        | zero => omega
        | succ j =>
          rw [hk, hk1]
          cases i with
          | zero =>
            obtain rfl := Option.some.inj hi
            simp only [Nat.add_zero] at r3
            exact T.hW j o' d (by simpa using hj) (k, o, s0) List.mem_cons_self r1 r2 (by rw [hb] at r3; exact r3) r4
          | succ i =>
            exact T.chkW i j oi o' d (by omega) (by simpa using hi) (by simpa using hj) r1 r2 (by rw [hb j, hb i] at r3; exact r3) r4
      · cases j with
        | zero =>
          obtain rfl := Option.some.inj hj
          simp only [Nat.add_zero] at r3 ⊢
          rw [h0, h0]
          have := hs (stepA P call ops fr0 o hh.2.2, q.1) (by
            unfold chk
            rw [if_pos r1]
            exact List.mem_filterMap.2 ⟨hh, hm, by rw [if_pos ⟨r2, r3⟩]⟩)
          exact this
        | succ j => rw [hk, hk]; exact T.hR j o' (by simpa using hj) hh (List.mem_cons_of_mem _ hm) r1 r2 (by rw [hb] at r3; exact r3)
      · cases j with
        | zero =>
          obtain rfl := Option.some.inj hj
          simp only [Nat.add_zero] at r3 ⊢
          rw [h0, h01, e1]
          have hnr : ¬ opRead P o.op = true := by
            intro q; unfold opWrite at r1; rw [q] at r1; simp at r1
          have := hs (stepA P call ops fr0 hh.2.1 q.2, fr0 d) (by
            unfold chk
            rw [if_neg hnr, if_pos r1]
            exact List.mem_filterMap.2 ⟨hh, hm, by rw [if_pos ⟨r2, r3⟩, r4]; rfl⟩)
          exact this
        | succ j => rw [hk, hk1]; exact T.hW j o' d (by simpa using hj) hh (List.mem_cons_of_mem _ hm) r1 r2 (by rw [hb] at r3; exact r3) r4

/-! ### what the region is like -/
structure Dr (P : Program) (ops : Array Oper) (b : Array Nat) : Prop where
  mixed : P.follows .mixedOrders = true
  back : ∀ (j : Nat) (o : Oper), ops[j]? = some o → ∀ e ∈ o.after.toList, Region.binds .any e = true → e.on < j
  slot : ∀ (j : Nat) (o : Oper), ops[j]? = some o → opRead P o.op = true → ∃ d, o.dst = some d
  seen : ∀ (i j : Nat) (oi o : Oper) (d : Tmp), ops[i]? = some oi → ops[j]? = some o → oi.dst = some d → d ∈ looks ops o → (b.getD j 0).testBit i = true ∨ (opRead P o.op = false ∧ j < i ∧ (b.getD i 0).testBit j = true)
  wr : ∀ (i j : Nat) (oi o : Oper), ops[i]? = some oi → ops[j]? = some o → i < j → opWrite P o.op = true → opWrite P oi.op = true → (b.getD j 0).testBit i = true
  one : ∀ (i j : Nat) (oi o : Oper) (d : Tmp), ops[i]? = some oi → ops[j]? = some o → i < j → oi.dst = some d → o.dst ≠ some d

theorem mem_zip {ops : Array Oper} {j : Nat} {o : Oper} (h : ops[j]? = some o) : (o, j) ∈ ops.toList.zipIdx := by
  rw [List.mem_zipIdx_iff_getElem?]; simpa using h
theorem mem_rows {j : Nat} {o : Oper} (h : ops[j]? = some o) : (rowOf P ops o, j) ∈ (ops.toList.map (rowOf P ops)).zipIdx := by
  rw [List.mem_zipIdx_iff_getElem?]; simp [h]

theorem dr_of (h : drawOk P ops (ops.toList.map (rowOf P ops)) (Region.before ops).toList = true) : Dr P ops (Region.before ops) := by
  unfold drawOk at h
  rw [Bool.and_eq_true, Bool.and_eq_true] at h
  obtain ⟨⟨hm, he⟩, h⟩ := h
  have h1 := fun (j : Nat) (o : Oper) (ho : ops[j]? = some o) => List.all_eq_true.1 h (rowOf P ops o, j) (mem_rows ho)
  simp only [Bool.and_eq_true] at h1
  have bit : ∀ j i, ((Region.before ops).toList.getD j 0).testBit i = ((Region.before ops).getD j 0).testBit i := fun j i => by simp
  have kr : ∀ o : Oper, opRead P o.op = true → (rowOf P ops o).2.2 = 1 := fun o hr => by
    have hp : opPure P o.op = false := by
      cases hop : o.op <;> rw [hop] at hr <;> simp only [opRead, Bool.false_eq_true] at hr <;> simp only [opPure]
      · split at hr
        · rename_i h1 h2; rw [h1, h2]
        · cases hr
      · split at hr
        · rename_i hc
          rw [hc]
          simp only
          split at hr
          · rename_i hu; rw [hu]
          · cases hr
        · cases hr
    simp [rowOf, hp, hr]
  have kw : ∀ o : Oper, opWrite P o.op = true → (rowOf P ops o).2.2 = 2 := fun o hw => by
    unfold opWrite at hw
    rw [Bool.and_eq_true] at hw
    simp only [Bool.not_eq_true'] at hw
    simp [rowOf, hw.1, hw.2]
  have kd : ∀ (o : Oper) d, o.dst = some d → (rowOf P ops o).1 = d + 1 := fun o d hd => by simp [rowOf, hd]
  refine ⟨hm, fun j o ho e hem hb => ?_, fun j o ho hr => ?_, fun i j oi o d hi hj hd hl => ?_, fun i j oi o hi hj hij hw hwi => ?_, fun i j oi o d hi hj hij hd => ?_⟩
  · have := List.all_eq_true.1 (List.all_eq_true.1 he (o, j) (mem_zip ho)) e hem
    rw [hb] at this
    simpa using this
  · have := (h1 j o ho).1
    simp only [kr o hr] at this
    cases hd : o.dst with
    | none => simp [rowOf, hd] at this
    | some d => exact ⟨d, rfl⟩
  · have := List.all_eq_true.1 (h1 j o hj).2 (rowOf P ops oi, i) (mem_rows hi)
    rw [Bool.and_eq_true] at this
    have := this.1
    simp only [kd oi d hd, bit] at this
    rw [Bool.or_eq_true, Bool.or_eq_true, Bool.or_eq_true] at this
    rcases this with ((h2 | h2) | h2) | h2
    · simp at h2
    · have hex : ((rowOf P ops o).2.1.any fun t => Nat.beq (t + 1) (d + 1)) = true := List.any_eq_true.2 ⟨d, hl, by simp⟩
      rw [hex] at h2; cases h2
    · exact .inl h2
    · rw [Bool.and_eq_true, Bool.and_eq_true] at h2
      refine .inr ⟨?_, by simpa using h2.1.2, h2.2⟩
      cases hr : opRead P o.op
      · rfl
      · rw [kr o hr] at h2; simp at h2
  · have := List.all_eq_true.1 (h1 j o hj).2 (rowOf P ops oi, i) (mem_rows hi)
    rw [Bool.and_eq_true] at this
    have := this.2
    have hb : Nat.blt i j = true := by simpa using hij
    simp only [hb, kw o hw, kw oi hwi, bit, Bool.not_true, Bool.false_or, Bool.and_eq_true] at this
    have := this.1
    simpa using this
  · have := List.all_eq_true.1 (h1 j o hj).2 (rowOf P ops oi, i) (mem_rows hi)
    rw [Bool.and_eq_true] at this
    have := this.2
    have hb : Nat.blt i j = true := by simpa using hij
    simp only [hb, Bool.not_true, Bool.false_or, Bool.and_eq_true] at this
    intro hd2
    have := this.2
    simp only [kd o d hd2, kd oi d hd] at this
    simp at this

theorem anc_lt (D : Dr P ops (Region.before ops)) : ∀ j i, ((Region.before ops).getD j 0).testBit i = true → i < j := by
  intro j
  induction j using Nat.strongRecOn with
  | _ j ih =>
    intro i h
    obtain ⟨o, ho, e, he, hb, h1 | ⟨h1, h2⟩⟩ := before_spec ops h
    · have := D.back j o ho e he hb; omega
    · have := ih e.on h1 i h2; omega

theorem anc_in (_D : Dr P ops (Region.before ops)) {L : Nat → Prop} (hcl : ∀ (j : Nat) (o : Oper), ops[j]? = some o → L j → ∀ e ∈ o.after.toList, Region.binds .any e = true → L e.on) : ∀ j i, ((∀ o, ops[j]? = some o → ∀ e ∈ o.after.toList, Region.binds .any e = true → L e.on)) →
    ((Region.before ops).getD j 0).testBit i = true → L i := by
  intro j
  induction j using Nat.strongRecOn with
  | _ j ih =>
    intro i hj h
    obtain ⟨o, ho, e, he, hb, h1 | ⟨h1, h2⟩⟩ := before_spec ops h
    · rw [← h1]; exact hj o ho e he hb
    · exact ih e.on h1 i (fun o' ho' => hcl e.on o' ho' (hj o ho e he hb)) h2

/-! ### the walk -/
section
variable {v : Nat → AV} {st : Nat → Store} {fr : Nat → Fr}

theorem tr_get {H : List (Nat × Oper × Store)} (T : Tr P call nt ops (Region.before ops) 0 ops.size ops.toList H v st fr) (j : Nat) (o : Oper) (h : ops[j]? = some o) :
    stepA P call ops (fr j) o (st j) = some (v j, st (j + 1)) ∧ (∀ t, fr (j + 1) t = if o.dst = some t then v j else fr j t) ∧ ∀ d, o.dst = some d → d < nt := by
  have h' : ops.toList[j]? = some o := by simpa using h
  have h1 := T.step j o h'
  have h2 := T.put j o h'
  simp only [Nat.zero_add] at h1 h2
  exact ⟨h1, h2.1, h2.2⟩

/-- Stores between which nothing is written. -/
theorem st_same {H : List (Nat × Oper × Store)} (T : Tr P call nt ops (Region.before ops) 0 ops.size ops.toList H v st fr) (i : Nat) : ∀ d, i + d ≤ ops.size → (∀ (j : Nat) (o : Oper), i ≤ j → j < i + d → ops[j]? = some o → opWrite P o.op = false) → st (i + d) = st i
  | 0, _, _ => rfl
  | d + 1, hd, hn => by
    have ho : ops[i + d]? = some (ops[i + d]'(by omega)) := Array.getElem?_eq_getElem (by omega)
    have h1 := (tr_get T (i + d) _ ho).1
    have h2 := stepA_keeps (hn (i + d) _ (by omega) (by omega) ho) h1
    rw [show i + (d + 1) = i + d + 1 by omega, h2]
    exact st_same T i d (by omega) (fun j o h1 h2 h3 => hn j o h1 (by omega) h3)

theorem st_same' {H : List (Nat × Oper × Store)} (T : Tr P call nt ops (Region.before ops) 0 ops.size ops.toList H v st fr) {i m : Nat} (him : i ≤ m) (hm : m ≤ ops.size) (hn : ∀ (j : Nat) (o : Oper), i ≤ j → j < m → ops[j]? = some o → opWrite P o.op = false) : st m = st i := by
  have := st_same T i (m - i) (by omega) (fun j o h1 h2 h3 => hn j o h1 (by omega) h3)
  rwa [show i + (m - i) = m by omega] at this

/-- What the text's frames hold. -/
theorem fr_new {H : List (Nat × Oper × Store)} (D : Dr P ops (Region.before ops)) (T : Tr P call nt ops (Region.before ops) 0 ops.size ops.toList H v st fr) (i : Nat) (oi : Oper) (t : Tmp) (hi : ops[i]? = some oi) (hd : oi.dst = some t) : ∀ d, i + 1 + d ≤ ops.size → fr (i + 1 + d) t = v i
  | 0, _ => by rw [(tr_get T i oi hi).2.1, if_pos hd]
  | d + 1, hl => by
    have ho : ops[i + 1 + d]? = some (ops[i + 1 + d]'(by omega)) := Array.getElem?_eq_getElem (by omega)
    rw [show i + 1 + (d + 1) = i + 1 + d + 1 by omega, (tr_get T _ _ ho).2.1, if_neg (D.one i (i + 1 + d) oi _ t hi ho (by omega) hd)]
    exact fr_new D T i oi t hi hd d (by omega)
theorem fr_old {H : List (Nat × Oper × Store)} (T : Tr P call nt ops (Region.before ops) 0 ops.size ops.toList H v st fr) (t : Tmp) : ∀ j, j ≤ ops.size → (∀ (i : Nat) (oi : Oper), i < j → ops[i]? = some oi → oi.dst ≠ some t) → fr j t = fr 0 t
  | 0, _, _ => rfl
  | j + 1, hl, hn => by
    have ho : ops[j]? = some (ops[j]'(by omega)) := Array.getElem?_eq_getElem (by omega)
    rw [(tr_get T j _ ho).2.1, if_neg (hn j _ (by omega) ho)]
    exact fr_old T t j (by omega) (fun i oi h1 h2 => hn i oi (by omega) h2)

theorem lt_of_get {j : Nat} {o : Oper} (h : ops[j]? = some o) : j < ops.size := (Array.getElem?_eq_some_iff.1 h).1

/-- What an operation looks at is what it is in any frame of the text in which all that it waits for stands. -/
theorem looks_text {H : List (Nat × Oper × Store)} (D : Dr P ops (Region.before ops)) (T : Tr P call nt ops (Region.before ops) 0 ops.size ops.toList H v st fr) {j q : Nat} {o : Oper} (ho : ops[j]? = some o) (hr : opRead P o.op = true) (hq : j ≤ q) (hqn : q ≤ ops.size) : ∀ t ∈ looks ops o, fr q t = fr j t := by
  intro t ht
  by_cases hx : ∃ (i : Nat) (oi : Oper), ops[i]? = some oi ∧ oi.dst = some t
  · obtain ⟨i, oi, hi, hd⟩ := hx
    have hij := anc_lt D j i ((D.seen i j oi o t hi ho hd ht).resolve_right (fun h => by rw [hr] at h; cases h.1))
    have h1 := fr_new D T i oi t hi hd (q - (i + 1)) (by omega)
    have h2 := fr_new D T i oi t hi hd (j - (i + 1)) (by have := lt_of_get ho; omega)
    rw [show i + 1 + (q - (i + 1)) = q by omega] at h1
    rw [show i + 1 + (j - (i + 1)) = j by omega] at h2
    rw [h1, h2]
  · have hno : ∀ (i : Nat) (oi : Oper), ops[i]? = some oi → oi.dst ≠ some t := fun i oi h1 h2 => hx ⟨i, oi, h1, h2⟩
    rw [fr_old T t q hqn (fun i oi _ h => hno i oi h), fr_old T t j (by have := lt_of_get ho; omega) (fun i oi _ h => hno i oi h)]

/-- What is told of a state within a region whose order is drawn. -/
structure Mid (P : Program) (B : Nat) (w0 : World) (nt : Nat) (ops : Array Oper) (v : Nat → AV) (st : Nat → Store) (fr : Nat → Fr) (ι0 : Nat → Loc) (s0 : Store) (w1 : World) (L : Nat → Prop) (a : Act) (w : World) (ι : Nat → Loc) (m : Nat) (frD : Fr) : Prop where
  le : m ≤ ops.size
  wr : ∀ (i : Nat) (o : Oper), ops[i]? = some o → opWrite P o.op = true → (L i ↔ i < m)
  new : ∀ (i : Nat) (o : Oper) (t : Tmp), ops[i]? = some o → o.dst = some t → L i → frD t = v i
  old : ∀ t, (∀ (i : Nat) (o : Oper), ops[i]? = some o → o.dst = some t → ¬ L i) → frD t = fr 0 t
  frm : FR nt ι (st m) w frD a
  wrl : WR B w0 ι (st m) w
  lat : Later ι0 s0 w1 ι (st m) w

theorem greatest {p : Nat → Prop} {m : Nat} (h : ∃ i, i < m ∧ p i) : ∃ i, i < m ∧ p i ∧ ∀ j, i < j → j < m → ¬ p j := by
  obtain ⟨i, hi, hp⟩ := h
  obtain ⟨d, ⟨k, k1, k2, k3⟩, hmin⟩ := exists_least (p := fun d => ∃ k, k < m ∧ p k ∧ m - k = d) ⟨m - i, i, hi, hp, rfl⟩
  refine ⟨k, k1, k2, fun j h1 h2 h3 => ?_⟩
  have := hmin (m - j) ⟨j, h2, h3, rfl⟩
  omega

variable {ι0 : Nat → Loc} {s0 : Store} {w1 : World}

/-- One operation that may be next. -/
theorem mid_step (hB : Bodied P call) (hC : CallOk P B w0 call) (D : Dr P ops (Region.before ops)) (T : Tr P call nt ops (Region.before ops) 0 ops.size ops.toList [] v st fr) {L : Nat → Prop} (hcl : ∀ (j : Nat) (o : Oper), ops[j]? = some o → L j → ∀ e ∈ o.after.toList, Region.binds .any e = true → L e.on)
    {a : Act} {w : World} {ι : Nat → Loc} {m : Nat} {frD : Fr} (M : Mid P B w0 nt ops v st fr ι0 s0 w1 L a w ι m frD) {j : Nat} {o : Oper} (ho : ops[j]? = some o) (hnl : ¬ L j) (hrd : ∀ e ∈ o.after.toList, Region.binds .any e = true → L e.on)
    {Q : Exit → Act → World → Prop} {K : Act → World → Prop} (hK : ∀ a' w' ι' m' frD', Mid P B w0 nt ops v st fr ι0 s0 w1 (fun i => i = j ∨ L i) a' w' ι' m' frD' → K a' w') : wpOp P ops Q j K a w := by
  have hjn := lt_of_get ho
  have anc : ∀ i, ((Region.before ops).getD j 0).testBit i = true → L i := fun i hi => anc_in D hcl j i (fun o' ho' => by rw [ho] at ho'; rw [← Option.some.inj ho']; exact hrd) hi
  have ancL : ∀ q, L q → ∀ i, ((Region.before ops).getD q 0).testBit i = true → L i := fun q hq i hi => anc_in D hcl q i (fun o' ho' => hcl q o' ho' hq) hi
  have hlook : ∀ t ∈ looks ops o, frD t = fr j t := by
    intro t ht
    by_cases hx : ∃ (i : Nat) (oi : Oper), ops[i]? = some oi ∧ oi.dst = some t
    · obtain ⟨i, oi, hi, hd⟩ := hx
      rcases D.seen i j oi o t hi ho hd ht with hb | ⟨_, hji, hb⟩
      · have hij := anc_lt D j i hb
        have h2 := fr_new D T i oi t hi hd (j - (i + 1)) (by omega)
        rw [show i + 1 + (j - (i + 1)) = j by omega] at h2
        rw [M.new i oi t hi hd (anc i hb), h2]
      · have only : ∀ (q : Nat) (oq : Oper), ops[q]? = some oq → oq.dst = some t → q = i := fun q oq h1 h2 => by
          rcases Nat.lt_trichotomy q i with h3 | h3 | h3
          · exact absurd hd (D.one q i oq oi t h1 hi h3 h2)
          · exact h3
          · exact absurd h2 (D.one i q oi oq t hi h1 h3 hd)
        rw [M.old t (fun q oq h1 h2 h3 => by
          have := only q oq h1 h2
          subst this
          exact hnl (ancL q h3 j hb)), fr_old T t j (by omega) (fun q oq h0 h1 h2 => by have := only q oq h1 h2; omega)]
    · have hno : ∀ (i : Nat) (oi : Oper), ops[i]? = some oi → oi.dst ≠ some t := fun i oi h1 h2 => hx ⟨i, oi, h1, h2⟩
      rw [M.old t (fun i oi h1 h2 => absurd h2 (hno i oi h1)), fr_old T t j (by omega) (fun i oi _ h => hno i oi h)]
  have hstep : ∀ s, stepA P call ops frD o s = stepA P call ops (fr j) o s := fun s => stepA_congr hlook s
  obtain ⟨t1, t2, t3⟩ := tr_get T j o ho
  -- what the operation comes to here
  have hval : ∃ m', (m' = m ∧ opWrite P o.op = false ∨ m' = j + 1 ∧ opWrite P o.op = true ∧ st m = st j) ∧ stepA P call ops frD o (st m) = some (v j, st m') := by
    cases hw : opWrite P o.op
    · refine ⟨m, .inl ⟨rfl, rfl⟩, ?_⟩
      rw [hstep]
      cases hp : opPure P o.op
      · have hr : opRead P o.op = true := by
          unfold opWrite at hw; rw [hp] at hw; simpa using hw
        have fin : ∀ s s', stepA P call ops (fr j) o s = some (v j, s') → stepA P call ops (fr j) o s = some (v j, s) := fun s s' h => by rw [h, stepA_read hr h]
        have same : st m = st j → stepA P call ops (fr j) o (st m) = some (v j, st m) := fun e => by rw [e]; exact fin _ _ t1
        rcases Nat.lt_or_ge m j with hmj | hmj
        · by_cases hx : ∃ i, m ≤ i ∧ i < j ∧ ∃ oi, ops[i]? = some oi ∧ opWrite P oi.op = true
          · obtain ⟨i, ⟨g1, g2, oi, g3, g4⟩, hmin⟩ := exists_least hx
            have e : st i = st m := st_same' T g1 (by omega) (fun q oq q1 q2 q3 => by
              cases h : opWrite P oq.op
              · rfl
              · have := hmin q ⟨q1, by omega, oq, q3, h⟩; omega)
            have hbit : ((Region.before ops).getD j 0).testBit i = false := by
              cases h : ((Region.before ops).getD j 0).testBit i
              · rfl
              · have := (M.wr i oi g3 g4).1 (anc i h); omega
            obtain ⟨s', h⟩ := T.chkR i j oi o g2 (by simpa using g3) (by simpa using ho) hr g4 (by simpa using hbit)
            simp only [Nat.zero_add] at h
            rw [← e]; exact fin _ _ h
          · exact same (st_same' T (Nat.le_of_lt hmj) (by omega) (fun q oq q1 q2 q3 => by
              cases h : opWrite P oq.op
              · rfl
              · exact absurd ⟨q, q1, q2, oq, q3, h⟩ hx)).symm
        · by_cases hx : ∃ i, i < m ∧ (j ≤ i ∧ ∃ oi, ops[i]? = some oi ∧ opWrite P oi.op = true)
          · obtain ⟨i, g2, ⟨g1, oi, g3, g4⟩, hmax⟩ := greatest hx
            have hin := lt_of_get g3
            have hne : j ≠ i := fun e => by subst e; rw [ho] at g3; rw [Option.some.inj g3, g4] at hw; cases hw
            have hij : j < i := by omega
            have hLi := (M.wr i oi g3 g4).2 g2
            have hbit : ((Region.before ops).getD i 0).testBit j = false := by
              cases h : ((Region.before ops).getD i 0).testBit j
              · rfl
              · exact absurd (ancL i hLi j h) hnl
            obtain ⟨d, hd⟩ := D.slot j o ho hr
            obtain ⟨s', h⟩ := T.chkW j i o oi d hij (by simpa using ho) (by simpa using g3) g4 hr (by simpa using hbit) hd
            simp only [Nat.zero_add] at h
            have e : st m = st (i + 1) := st_same' T (by omega) M.le (fun q oq q1 q2 q3 => by
              cases h : opWrite P oq.op
              · rfl
              · exact absurd ⟨by omega, oq, q3, h⟩ (hmax q (by omega) q2))
            have hfd := fr_new D T j o d ho hd (i - (j + 1)) (by omega)
            rw [show j + 1 + (i - (j + 1)) = i by omega] at hfd
            rw [hfd, stepA_congr (looks_text D T ho hr (Nat.le_of_lt hij) (Nat.le_of_lt hin))] at h
            rw [e]; exact fin _ _ h
          · exact same (st_same' T hmj M.le (fun q oq q1 q2 q3 => by
              cases h : opWrite P oq.op
              · rfl
              · exact absurd ⟨q, q2, q1, oq, q3, h⟩ hx))
      · exact (stepA_pure hp t1).2 _
    · have e : st m = st j := by
        rcases Nat.lt_or_ge m j with hmj | hmj
        · exact (st_same' T (Nat.le_of_lt hmj) (by omega) (fun q oq q1 q2 q3 => by
            cases h : opWrite P oq.op
            · rfl
            · have := (M.wr q oq q3 h).1 (anc q (D.wr q j oq o q3 ho q2 hw h)); omega)).symm
        · exact st_same' T hmj M.le (fun q oq q1 q2 q3 => by
            cases h : opWrite P oq.op
            · rfl
            · have hLq := (M.wr q oq q3 h).2 q2
              rcases Nat.lt_or_ge j q with hjq | hjq
              · exact absurd (ancL q hLq j (D.wr j q o oq ho q3 hjq h hw)) hnl
              · have : q = j := by omega
                subst this; exact absurd hLq hnl)
      exact ⟨j + 1, .inr ⟨rfl, rfl, e⟩, by rw [hstep, e]; exact t1⟩
  obtain ⟨m', hm', hval⟩ := hval
  have go : ∀ v' w' ι', VR ι' (st m') w' (v j) v' → WR B w0 ι' (st m') w' → Later ι (st m) w ι' (st m') w' → K (a.put o.dst v') w' := by
    intro v' w' ι' hv hW hL
    have hF := M.frm.later hL
    have hput : aPut nt o.dst (v j) frD some = some (fun t => if o.dst = some t then v j else frD t) := by
      unfold aPut
      cases hd : o.dst with
      | none => simp
      | some d =>
        simp only
        rw [if_pos (t3 d hd)]
        congr 1
        funext t
        unfold upd
        by_cases e : t = d
        · rw [if_pos e, if_pos (by rw [e])]
        · rw [if_neg e, if_neg (fun q => e (Option.some.inj q).symm)]
    obtain ⟨fr', k1, k2, k3⟩ := hF.put hv hput
    refine hK _ _ ι' m' fr' ⟨?_, ?_, ?_, ?_, k2, hW, M.lat.trans hL⟩
    · rcases hm' with ⟨rfl, _⟩ | ⟨rfl, _⟩
      · exact M.le
      · omega
    · intro i oi hi hwi
      rcases hm' with ⟨rfl, hwj⟩ | ⟨rfl, hwj, _⟩
      · have hne : i ≠ j := fun e => by subst e; rw [ho] at hi; rw [Option.some.inj hi, hwi] at hwj; cases hwj
        rw [← M.wr i oi hi hwi]
        exact ⟨fun h => h.resolve_left hne, .inr⟩
      · constructor
        · rintro (rfl | h)
          · omega
          · rcases Nat.lt_or_ge j i with hji | hji
            · exact absurd (ancL i h j (D.wr j i o oi ho hi hji hwi hwj)) hnl
            · omega
        · intro h
          rcases Nat.lt_or_ge i j with hij | hij
          · exact .inr (anc i (D.wr i j oi o hi ho hij hwj hwi))
          · exact .inl (by omega)
    · intro i oi t hi hd hLi
      rw [k3]
      by_cases e : i = j
      · subst e; rw [ho] at hi; rw [Option.some.inj hi, if_pos hd]
      · rw [if_neg]
        · exact M.new i oi t hi hd (hLi.resolve_left e)
        · intro hd2
          rcases Nat.lt_or_ge i j with hij | hij
          · exact D.one i j oi o t hi ho hij hd hd2
          · exact D.one j i o oi t ho hi (by omega) hd2 hd
    · intro t hn
      rw [k3, if_neg (fun hd => hn j o ho hd (.inl rfl))]
      exact M.old t (fun i oi h1 h2 h3 => hn i oi h1 h2 (.inr h3))
  unfold wpOp
  simp only [ho]
  unfold stepA at hval
  cases hg : o.guard with
  | none =>
    rw [hg] at hval
    rw [if_pos (by simp [Region.wanted, hg])]
    exact .inl (op_run hB hC hval M.frm M.wrl fun v2 s2 v' w' ι' k1 k2 k3 k4 => by
      obtain ⟨rfl, rfl⟩ := Prod.mk.inj (Option.some.inj k1)
      exact go v' w' ι' k2 k3 k4)
  | some jw =>
    obtain ⟨q, want⟩ := jw
    rw [hg] at hval
    simp only at hval
    split at hval
    · cases hval
    · rename_i t ht
      rcases guard_of hg ht M.frm hval with ⟨hw, hx⟩ | ⟨hw, hy⟩
      · rw [if_pos hw]
        exact .inl (op_run hB hC hx M.frm M.wrl fun v2 s2 v' w' ι' k1 k2 k3 k4 => by
          obtain ⟨rfl, rfl⟩ := Prod.mk.inj (Option.some.inj k1)
          exact go v' w' ι' k2 k3 k4)
      · rw [if_neg (by rw [hw]; simp)]
        obtain ⟨e1, e2⟩ := Prod.mk.inj (Option.some.inj hy)
        refine go _ _ ι ?_ ?_ ?_
        · rw [← e1]; exact VR.undef _ _ _
        · rw [← e2]; exact M.wrl
        · rw [← e2]; exact Later.refl _ _ _

theorem draw_walk (hB : Bodied P call) (hC : CallOk P B w0 call) (D : Dr P ops (Region.before ops)) (T : Tr P call nt ops (Region.before ops) 0 ops.size ops.toList [] v st fr) {κ : Fr → Store → Option α} (hκ : κ (fr ops.size) (st ops.size) = some r) {Q : Exit → Act → World → Prop}
    (hQ : ∀ fr s a w, St P B w0 nt ι0 s0 w1 fr s a w → κ fr s = some r → Q .normal a w) : ∀ (fuel : Nat) (U : List Nat) (listed : Array Bool) (a : Act) (w : World) (ι : Nat → Loc) (m : Nat) (frD : Fr), listed.size = ops.size → U.length ≤ fuel → (∀ i, i < ops.size → listed.getD i false = false → i ∈ U) →
    (∀ (j : Nat) (o : Oper), ops[j]? = some o → listed.getD j false = true → ∀ e ∈ o.after.toList, Region.binds .any e = true → listed.getD e.on false = true) → Mid P B w0 nt ops v st fr ι0 s0 w1 (fun i => listed.getD i false = true) a w ι m frD → wpAny P .any ops Q fuel listed a w := by
  -- where all has been done
  have done : ∀ (listed : Array Bool) (a : Act) (w : World) (ι : Nat → Loc) (m : Nat) (frD : Fr), (∀ i, i < ops.size → listed.getD i false = true) → Mid P B w0 nt ops v st fr ι0 s0 w1 (fun i => listed.getD i false = true) a w ι m frD → Q .normal a w := by
    intro listed a w ι m frD hall M
    have e1 : st ops.size = st m := st_same' T M.le (Nat.le_refl _) (fun q oq q1 q2 q3 => by
      cases h : opWrite P oq.op
      · rfl
      · have := (M.wr q oq q3 h).1 (hall q (lt_of_get q3)); omega)
    have e2 : frD = fr ops.size := by
      funext t
      by_cases hx : ∃ (i : Nat) (oi : Oper), ops[i]? = some oi ∧ oi.dst = some t
      · obtain ⟨i, oi, hi, hd⟩ := hx
        have hin := lt_of_get hi
        have h2 := fr_new D T i oi t hi hd (ops.size - (i + 1)) (by omega)
        rw [show i + 1 + (ops.size - (i + 1)) = ops.size by omega] at h2
        rw [M.new i oi t hi hd (hall i hin), h2]
      · have hno : ∀ (i : Nat) (oi : Oper), ops[i]? = some oi → oi.dst ≠ some t := fun i oi h1 h2 => hx ⟨i, oi, h1, h2⟩
        rw [M.old t (fun i oi h1 h2 => absurd h2 (hno i oi h1)), fr_old T t ops.size (Nat.le_refl _) (fun i oi _ h => hno i oi h)]
    refine hQ (fr ops.size) (st ops.size) a w ⟨ι, ?_, ?_, ?_⟩ hκ
    · rw [e1, ← e2]; exact M.frm
    · rw [e1]; exact M.wrl
    · rw [e1]; exact M.lat
  have getT : ∀ (listed : Array Bool) i, listed.size = ops.size → i < ops.size → listed.getD i true = listed.getD i false := by
    intro listed i hs hi
    simp [show i < listed.size by omega]
  have full : ∀ (listed : Array Bool), listed.size = ops.size → Region.ready .any ops listed = [] → ∀ i, i < ops.size → listed.getD i false = true := by
    intro listed hs hr i
    induction i using Nat.strongRecOn with
    | _ i ih =>
      intro hi
      cases h : listed.getD i false
      · have ho : ops[i]? = some (ops[i]'hi) := Array.getElem?_eq_getElem hi
        have : i ∈ Region.ready .any ops listed := mem_ready.2 ⟨by rw [getT listed i hs hi]; exact h, _, ho, fun e he hb => by
          have := D.back i _ ho e (by simpa using he) hb
          exact ih e.on this (by omega)⟩
        rw [hr] at this
        cases this
      · rfl
  intro fuel
  induction fuel with
  | zero =>
    intro U listed a w ι m frD hs hU hcov hcl M
    have hall : ∀ i, i < ops.size → listed.getD i false = true := by
      intro i hi
      cases h : listed.getD i false
      · have := hcov i hi h
        have : U = [] := List.length_eq_zero_iff.1 (by omega)
        simp_all
      · rfl
    refine ⟨?_, done listed a w ι m frD hall M⟩
    cases hr : Region.ready .any ops listed with
    | nil => rfl
    | cons x xs =>
      have : x ∈ Region.ready .any ops listed := by rw [hr]; exact List.mem_cons_self
      obtain ⟨h1, o, ho, _⟩ := mem_ready.1 this
      rw [getT listed x hs (lt_of_get ho), hall x (lt_of_get ho)] at h1
      cases h1
  | succ fuel ih =>
    intro U listed a w ι m frD hs hU hcov hcl M
    refine ⟨fun hr => done listed a w ι m frD (full listed hs hr) M, fun j hj => ?_⟩
    obtain ⟨h1, o, ho, h2⟩ := mem_ready.1 hj
    have hjn := lt_of_get ho
    rw [getT listed j hs hjn] at h1
    have hset : ∀ i, (listed.setIfInBounds j true).getD i false = true ↔ i = j ∨ listed.getD i false = true := by
      intro i
      by_cases e : i = j
      · subst e; simp [show i < listed.size by omega]
      · simp [e, Array.getElem?_setIfInBounds_ne (Ne.symm e)]
    refine mid_step hB hC D T hcl M ho (by rw [h1]; simp) (fun e he hb => h2 e (by simpa using he) hb) (fun a' w' ι' m' frD' M' => ?_)
    have hmem := hcov j hjn h1
    refine ih (U.erase j) (listed.setIfInBounds j true) a' w' ι' m' frD' (by simpa using hs) (by rw [List.length_erase_of_mem hmem]; omega) (fun i hi hf => ?_) (fun i oi hi hl e he hb => ?_) ?_
    · have hne : i ≠ j := fun e => by
        have := (hset i).2 (.inl e)
        rw [this] at hf; cases hf
      have hf2 : listed.getD i false = false := by
        cases h : listed.getD i false
        · rfl
        · have := (hset i).2 (.inr h); rw [this] at hf; cases hf
      exact (List.mem_erase_of_ne hne).2 (hcov i hi hf2)
    · rcases (hset i).1 hl with rfl | hl
      · rw [ho] at hi
        rw [← Option.some.inj hi] at he
        exact (hset _).2 (.inr (h2 e (by simpa using he) hb))
      · exact (hset _).2 (.inr (hcl i oi hi hl e he hb))
    · have : (fun i => (listed.setIfInBounds j true).getD i false = true) = fun i => i = j ∨ listed.getD i false = true := funext fun i => propext (hset i)
      rw [this]; exact M'

theorem draw_sound (hB : Bodied P call) (hC : CallOk P B w0 call) : DrawSound P call B w0 := by
  intro α r nt ι0 s0 w1 ops κ Q id hok hQ fr0 s a w hS h
  have D := dr_of hok
  obtain ⟨v, st, fr, e1, e2, e3, T⟩ := trace ops.toList 0 [] fr0 s h
  simp only [Nat.zero_add, Array.length_toList] at e3 T
  refine wp_region_any D.mixed ?_
  obtain ⟨ι, hF, hW, hL⟩ := hS
  obtain ⟨hW', hL'⟩ := hW.draw (w' := { w with drawn := w.drawn + 1 }) rfl rfl rfl rfl
  refine draw_walk hB hC D T e3 hQ ops.size (List.range ops.size) _ a _ ι 0 fr0 (by simp) (by simp) (fun i hi _ => List.mem_range.2 hi) (fun j o ho hl => ?_) ⟨Nat.zero_le _, fun i o hi _ => ?_, fun i o t hi hd hl => ?_, fun t _ => by rw [e2], ?_, ?_, ?_⟩
  · have := lt_of_get ho
    simp [this] at hl
  · have := lt_of_get hi
    simp [this]
  · have := lt_of_get hi
    simp [this] at hl
  · rw [e1]; exact hF.later hL'
  · rw [e1]; exact hW'
  · rw [e1]; exact hL.trans hL'

end
end
end Go.Proofs.Ytkfdgegmahbkiaa.Sim
