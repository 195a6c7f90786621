/- The abstract machine is sound: regions in the text's order, code, calls. No condition. -/
import Derived.Test.YtjbgdpfkmcibbaaGreatDoorSimL
namespace Go.Proofs.YtjbgdpfkmcibbaaGreatDoor.Sim
open Go.RowKit (Below)
set_option linter.unusedSimpArgs false
section
variable {P : Program} {call : CallA} {B : Nat} {w0 : World} {ι : Nat → Loc} {s : Store} {w : World} {α : Type} {r : α}

/-- A frame stands for a frame. -/
structure FR (nt : Nat) (ι : Nat → Loc) (s : Store) (w : World) (fr : Fr) (a : Act) : Prop where
  size : a.tmps.size = nt
  defers : a.defers = []
  val : ∀ t, VR ι s w (fr t) (a.tmps.getD t undef)

theorem VR.undef (ι : Nat → Loc) (s : Store) (w : World) : VR ι s w (.tuple []) Go.undef := VRs.tup (ys := []) (.nil _ _ _)

theorem FR.later {nt : Nat} {fr : Fr} {a : Act} {ι' : Nat → Loc} {s' : Store} {w' : World} (h : FR nt ι s w fr a) (k : Later ι s w ι' s' w') : FR nt ι' s' w' fr a := ⟨h.size, h.defers, fun t => (h.val t).later k⟩
theorem FR.eval {nt : Nat} {fr : Fr} {a : Act} (h : FR nt ι s w fr a) (hW : WR B w0 ι s w) (x : Operand) : VR ι s w (evalA fr x) (a.eval x) := by
  cases x with
  | tmp t => exact h.val t
  | const v => exact ofVal_sound _ _ _ _
  | global g => exact hW.glob g
  | func f => exact .func rfl (fun i x y hx => by simp at hx) rfl (fun i x y hx => by simp at hx)
theorem FR.put {nt : Nat} {fr : Fr} {a : Act} (h : FR nt ι s w fr a) {d : Option Tmp} {v : AV} {v' : Value} (hv : VR ι s w v v') {f : Fr → Option α} (hp : aPut nt d v fr f = some r) : ∃ fr', f fr' = some r ∧ FR nt ι s w fr' (a.put d v') ∧ (∀ t, fr' t = if d = some t then v else fr t) := by
  unfold aPut at hp
  split at hp
  · exact ⟨fr, hp, h, fun t => by simp⟩
  · rename_i t
    split at hp
    · rename_i ht
      refine ⟨upd fr t v, hp, ⟨by simp [Act.put, h.size], h.defers, fun j => ?_⟩, fun j => ?_⟩
      case refine_2 =>
        unfold upd
        by_cases e : j = t
        · simp [e]
        · rw [if_neg e, if_neg (fun q => e (Option.some.inj q).symm)]
      unfold upd
      by_cases e : j = t
      · subst e
        rw [if_pos rfl]
        have : (a.put (some j) v').tmps.getD j Go.undef = v' := by simp [Act.put, h.size, ht]
        rw [this]; exact hv
      · rw [if_neg e]
        have : (a.put (some t) v').tmps.getD j Go.undef = a.tmps.getD j Go.undef := by simp [Act.put, Array.getElem?_setIfInBounds_ne (Ne.symm e)]
        rw [this]; exact h.val j
    · cases hp

/-- The calls are sound. -/
def CallOk (P : Program) (B : Nat) (w0 : World) (call : CallA) : Prop :=
  ∀ g args s v s' ι w args', call g args s = some (v, s') → VRs ι s w args args'.toList → WR B w0 ι s w →
    Calls P g args' w fun e w' => ∃ v' ι', e = .returned v' ∧ VR ι' s' w' v v' ∧ WR B w0 ι' s' w' ∧ Later ι s w ι' s' w'

/-- An operation that is performed. -/
theorem op_run (hB : Bodied P call) (hC : CallOk P B w0 call) {nt : Nat} {fr : Fr} {a : Act} {o : Oper} {κ : AV → Store → Option α} (h : aop P call (evalA fr) o s κ = some r) (hF : FR nt ι s w fr a) (hW : WR B w0 ι s w)
    {K : Act → World → Prop} {Q : Exit → Act → World → Prop} (hK : ∀ v s' v' w' ι', κ v s' = some r → VR ι' s' w' v v' → WR B w0 ι' s' w' → Later ι s w ι' s' w' → K (a.put o.dst v') w') : o.wp P a w K Q := by
  unfold Oper.wp
  rcases aop_sound hB (hF.eval hW) h hW with ⟨v, s', nx, v', w', ι', h1, h2, h3, h4, h5, h6⟩ | ⟨g, args, args', v, s', h1, h2, h3, h4⟩
  · rw [h2]
    rcases h3 with rfl | ⟨rfl, rfl⟩
    · exact hK v s' v' w' ι' h1 h4 h5 h6
    · exact hK v s' _ w' ι' h1 h4 h5 h6
  · rw [h1]
    refine Calls.mono (hC g args s v s' ι w args' h3 h2 hW) (fun e w' he => ?_)
    obtain ⟨v', ι', rfl, k1, k2, k3⟩ := he
    exact hK v s' v' w' ι' h4 k1 k2 k3

theorem guard_of {nt : Nat} {fr : Fr} {a : Act} {ops : Array Oper} {o : Oper} {j : Nat} {want : Bool} {t : Tmp} (hg : o.guard = some (j, want)) (ht : (ops[j]?).bind (·.dst) = some t) (hF : FR nt ι s w fr a) {x y : Option α} (h : aGuard (fr t) want x y = some r) :
    (Region.wanted o (yielded ops a.tmps) = true ∧ x = some r) ∨ (Region.wanted o (yielded ops a.tmps) = false ∧ y = some r) := by
  have hv := hF.val t
  unfold aGuard at h
  unfold Region.wanted yielded
  simp only [hg, ht, Option.bind_some]
  split at h
  · rename_i b hb
    rw [hb] at hv
    have hget : a.tmps[t]? = some (.bool b) := by
      cases hq : a.tmps[t]? with
      | none => simp [hq] at hv; cases hv
      | some q => simp [hq] at hv; cases hv; rfl
    rw [hget]
    split at h
    · rename_i e; subst e; exact .inl ⟨by simp, h⟩
    · rename_i e; exact .inr ⟨by simp [e], h⟩
  · rename_i hb
    rw [hb] at hv
    refine .inr ⟨?_, h⟩
    cases hq : a.tmps[t]? with
    | none => simp
    | some q => simp [hq] at hv; cases hv; simp
  · cases h

/-- Where a state has come to, since a call began. -/
def St (_P : Program) (B : Nat) (w0 : World) (nt : Nat) (ι0 : Nat → Loc) (s0 : Store) (w1 : World) (fr : Fr) (s : Store) (a : Act) (w : World) : Prop :=
  ∃ ι, FR nt ι s w fr a ∧ WR B w0 ι s w ∧ Later ι0 s0 w1 ι s w

variable {ι0 : Nat → Loc} {s0 : Store} {w1 : World} {nt : Nat}

theorem execOps_sound (hB : Bodied P call) (hC : CallOk P B w0 call) {ops : Array Oper} {κ : Fr → Store → Option α} {Q : Exit → Act → World → Prop} (hQ : ∀ fr s a w, St P B w0 nt ι0 s0 w1 fr s a w → κ fr s = some r → Q .normal a w) :
    ∀ (l : List Oper) (fr : Fr) (s : Store) (a : Act) (w : World), St P B w0 nt ι0 s0 w1 fr s a w → execOps P call nt ops l κ fr s = some r → wpList P ops Q l a w
  | [], fr, s, a, w, hS, h => hQ fr s a w hS h
  | o :: l, fr, s, a, w, hS, h => by
    obtain ⟨ι, hF, hW, hL⟩ := hS
    have fin : ∀ {v : AV} {s' : Store} {v' : Value} {w' : World} {ι' : Nat → Loc}, aPut nt o.dst v fr (fun fr' => execOps P call nt ops l κ fr' s') = some r → VR ι' s' w' v v' → WR B w0 ι' s' w' → Later ι s w ι' s' w' → wpList P ops Q l (a.put o.dst v') w' := by
      intro v s' v' w' ι' hp hv hW' hL'
      obtain ⟨fr', k1, k2, _⟩ := FR.put (hF.later hL') hv hp
      exact execOps_sound hB hC hQ l fr' s' _ w' ⟨ι', k2, hW', hL.trans hL'⟩ k1
    unfold execOps at h
    unfold wpList
    cases hg : o.guard with
    | none =>
      rw [hg] at h
      rw [if_pos (by simp [Region.wanted, hg])]
      exact .inl (op_run hB hC h hF hW fun v s' v' w' ι' k1 k2 k3 k4 => fin k1 k2 k3 k4)
    | some jw =>
      obtain ⟨j, want⟩ := jw
      rw [hg] at h
      simp only at h
      split at h
      · cases h
      · rename_i t ht
        obtain ⟨q, hq, hk⟩ := Option.bind_eq_some_iff.1 h
        rcases guard_of hg ht hF hq with ⟨hw, hx⟩ | ⟨hw, hy⟩
        · rw [if_pos hw]
          refine .inl (op_run hB hC hx hF hW fun v s' v' w' ι' k1 k2 k3 k4 => ?_)
          injection k1 with k1
          subst k1
          exact fin hk k2 k3 k4
        · rw [if_neg (by rw [hw]; simp)]
          injection hy with hy
          subst hy
          exact fin hk (VR.undef _ _ _) hW (Later.refl _ _ _)

/-- A region whose order is drawn. -/
def DrawSound (P : Program) (call : CallA) (B : Nat) (w0 : World) : Prop :=
  ∀ {α : Type} {r : α} {nt : Nat} {ι0 : Nat → Loc} {s0 : Store} {w1 : World} {ops : Array Oper} {κ : Fr → Store → Option α} {Q : Exit → Act → World → Prop} {id : Nat}, drawOk P ops (ops.toList.map (rowOf P ops)) (Region.before ops).toList = true →
    (∀ fr s a w, St P B w0 nt ι0 s0 w1 fr s a w → κ fr s = some r → Q .normal a w) →
    ∀ (fr : Fr) (s : Store) (a : Act) (w : World), St P B w0 nt ι0 s0 w1 fr s a w → execDraw P call nt ops (Region.before ops) κ (ops.toList.zipIdx.map fun p => (p.2, p.1)) [] fr s = some r → (Code.region id ops true).wp P Q a w

def DrawSoundQ (P : Program) (call : CallA) (B : Nat) (w0 : World) : Prop :=
  ∀ {α : Type} {r : α} {nt : Nat} {ι0 : Nat → Loc} {s0 : Store} {w1 : World} {ops : Array Oper} {κ : Fr → Store → Option α} {Q : Exit → Act → World → Prop} {id : Nat}, drawOk P ops (ops.toList.map (rowOf2 P ops)) (Region.before ops).toList = true →
    (∀ fr s a w, St P B w0 nt ι0 s0 w1 fr s a w → κ fr s = some r → Q .normal a w) →
    ∀ (fr : Fr) (s : Store) (a : Act) (w : World), St P B w0 nt ι0 s0 w1 fr s a w → execDrawQ P call nt ops (Region.before ops) s.next κ (ops.toList.zipIdx.map fun p => (p.2, p.1)) [] fr (reserve ops.size s) = some r → (Code.region id ops true).wp P Q a w

theorem exec_sound (hB : Bodied P call) (hC : CallOk P B w0 call) (hD : DrawSound P call B w0) (hDQ : DrawSoundQ P call B w0) {fuel : Nat} : ∀ (c : Code) (K : Ks α) (Q : Exit → Act → World → Prop), (∀ fr s a w, St P B w0 nt ι0 s0 w1 fr s a w → K.n fr s = some r → Q .normal a w) → (∀ id fr s a w, St P B w0 nt ι0 s0 w1 fr s a w → K.x id fr s = some r → Q (.exit id) a w) →
    (∀ fr s a w, St P B w0 nt ι0 s0 w1 fr s a w → K.r fr s = some r → Q .ret a w) → ∀ fr s a w, St P B w0 nt ι0 s0 w1 fr s a w → exec P call fuel nt c K fr s = some r → c.wp P Q a w := by
  intro c
  induction c with
  | skip => intro K Q hn hx hr fr s a w hS h; exact wp_skip (hn fr s a w hS h)
  | region id ops draw =>
    intro K Q hn hx hr fr s a w hS h
    cases draw
    · exact wp_region_list (execOps_sound hB hC hn ops.toList fr s a w hS h)
    · simp only [exec, forceL_eq, forceRows_eq, CheckFast.beforeF_eq] at h
      cases hok : drawOk P ops (ops.toList.map (rowOf P ops)) (Region.before ops).toList
      · rw [hok] at h
        simp only at h
        cases hok2 : drawOk P ops (ops.toList.map (rowOf2 P ops)) (Region.before ops).toList
        · rw [hok2] at h; cases h
        · rw [hok2] at h
          exact hDQ hok2 hn fr s a w hS (by simpa using h)
      · rw [hok] at h
        exact hD hok hn fr s a w hS (by simpa using h)
  | seq x y ihx ihy =>
    intro K Q hn hx hr fr s a w hS h
    refine wp_seq (ihx ⟨exec P call fuel nt y K, K.x, K.r⟩ (Exit.then (y.wp P Q) Q) (fun fr s a w hS h => ?_) (fun id fr s a w hS h => hx id fr s a w hS h) (fun fr s a w hS h => hr fr s a w hS h) fr s a w hS h)
    exact ihy K Q hn hx hr fr s a w hS h
  | cond c x y ihx ihy =>
    intro K Q hn hx hr fr s a w hS h
    obtain ⟨ι, hF, hW, hL⟩ := hS
    have hv := hF.eval hW c
    simp only [exec] at h
    unfold aIf at h
    split at h
    · rename_i t ht
      rw [ht] at hv
      have hc : a.eval c = .bool t := by generalize a.eval c = q at hv; cases hv; rfl
      refine wp_cond hc ?_
      cases t
      · exact ihy K Q hn hx hr fr s a w ⟨ι, hF, hW, hL⟩ (by simpa using h)
      · exact ihx K Q hn hx hr fr s a w ⟨ι, hF, hW, hL⟩ (by simpa using h)
    · cases h
  | block id b ih =>
    intro K Q hn hx hr fr s a w hS h
    refine wp_block (ih ⟨K.n, fun j => if j = id then K.n else K.x j, K.r⟩ (Exit.inBlock id Q) (fun fr s a w hS h => hn fr s a w hS h) (fun j fr s a w hS h => ?_) (fun fr s a w hS h => hr fr s a w hS h) fr s a w hS h)
    simp only [Exit.inBlock]
    by_cases e : j = id
    · rw [if_pos e]; simp only [if_pos e] at h; exact hn fr s a w hS h
    · rw [if_neg e]; simp only [if_neg e] at h; exact hx j fr s a w hS h
  | loop b ih =>
    intro K Q hn hx hr fr s a w hS h
    refine wp_loop_ghost (fun n a w => ∃ fr s, St P B w0 nt ι0 s0 w1 fr s a w ∧ loopN (fun rec => exec P call fuel nt b ⟨rec, K.x, K.r⟩) n fr s = some r) fuel ⟨fr, s, hS, h⟩ ?_
    intro n a w ⟨fr, s, hS, h⟩
    cases n with
    | zero => simp [loopN] at h
    | succ n =>
      exact ih ⟨loopN (fun rec => exec P call fuel nt b ⟨rec, K.x, K.r⟩) n, K.x, K.r⟩ (Exit.then (fun a' w' => ∃ n', n' < n + 1 ∧ ∃ fr s, St P B w0 nt ι0 s0 w1 fr s a' w' ∧ loopN (fun rec => exec P call fuel nt b ⟨rec, K.x, K.r⟩) n' fr s = some r) Q) (fun fr s a w hS h => ⟨n, Nat.lt_succ_self n, fr, s, hS, h⟩) (fun id fr s a w hS h => hx id fr s a w hS h) (fun fr s a w hS h => hr fr s a w hS h) fr s a w hS h
  | exit id => intro K Q hn hx hr fr s a w hS h; exact wp_exit (hx id fr s a w hS h)
  | ret => intro K Q hn hx hr fr s a w hS h; exact wp_ret (hr fr s a w hS h)
  | _ => intro K Q hn hx hr fr s a w hS h; simp [exec] at h

/-! ### what a function returns -/
def rvRun (tmps : Array Value) : ResultVar → Sem Value
  | .tmp t => pure (tmps.getD t undef)
  | .cell p t => do loadVar t (← asAddr (tmps.getD p undef))

theorem result_sound {rv : ResultVar} {fr : Fr} {a : Act} {f : AV → Option α} (h : aResult P fr s rv f = some r) (hF : FR nt ι s w fr a) (hW : WR B w0 ι s w) :
    ∃ v v', f v = some r ∧ (rvRun a.tmps rv).run P w = .ok v' w ∧ VR ι s w v v' := by
  cases rv with
  | tmp t => exact ⟨_, _, h, rfl, hF.val t⟩
  | cell p t =>
    obtain ⟨v, v', k1, k2, k3⟩ := load_sound (P := P) (κ := fun v _ => f v) h (hF.val p) hW
    refine ⟨v, v', k1, ?_, k3⟩
    simp only [rvRun, Sem.run_bind]
    simp only [Instr.loadAt, Sem.run_bind] at k2
    generalize hq : a.tmps.getD p undef = q at k2
    cases q with
    | pointer o =>
      cases o with
      | none => simp [Instr.sureAddr] at k2
      | some ad => simpa [Instr.sureAddr, asAddr] using k2
    | _ => simp [Instr.sureAddr] at k2

theorem results_list : ∀ {rs : List ResultVar} {fr : Fr} {a : Act} {f : List AV → Option α}, aResults P fr s rs f = some r → FR nt ι s w fr a → WR B w0 ι s w →
    ∃ vs vs', f vs = some r ∧ (rs.mapM (rvRun a.tmps)).run P w = .ok vs' w ∧ VRs ι s w vs vs'
  | [], fr, a, f, h, hF, hW => ⟨[], [], h, rfl, .nil _ _ _⟩
  | rv :: rs, fr, a, f, h, hF, hW => by
    simp only [aResults] at h
    obtain ⟨v, v', k1, k2, k3⟩ := result_sound h hF hW
    obtain ⟨vs, vs', g1, g2, g3⟩ := results_list k1 hF hW
    refine ⟨v :: vs, v' :: vs', g1, ?_, .cons k3 g3⟩
    rw [List.mapM_cons, Sem.run_bind, k2, Result.andThen_ok, Sem.run_bind, g2]
    rfl

theorem results_sound {fn : Func} {fr : Fr} {a : Act} {v : AV} {s' : Store} (h : retK P fn.results.toList fr s = some (v, s')) (hF : FR nt ι s w fr a) (hW : WR B w0 ι s w) : s' = s ∧ ∃ v', (results fn a.tmps).run P w = .ok v' w ∧ VR ι s w v v' := by
  unfold retK at h
  obtain ⟨vs, vs', k1, k2, k3⟩ := results_list h hF hW
  injection k1 with k1
  obtain ⟨rfl, rfl⟩ := Prod.mk.inj k1
  refine ⟨rfl, if h : vs'.toArray.size = 1 then vs'.toArray[0] else .tuple vs'.toArray, ?_, ?_⟩
  · show ((fn.results.mapM (rvRun a.tmps)) >>= fun vs => (pure (if h : vs.size = 1 then vs[0] else .tuple vs) : Sem Value)).run P w = _
    rw [Sem.run_bind, Array.mapM_eq_mapM_toList, Sem.run_map, k2]
    simp only [Result.andThen_ok, Sem.run_pure]
  · unfold tupled
    have hl := k3.1
    split
    · rename_i v
      obtain ⟨y, rfl⟩ : ∃ y, vs' = [y] := by
        match vs', hl with
        | [y], _ => exact ⟨y, rfl⟩
      exact k3.2 0 _ _ rfl rfl
    · rename_i hne
      rw [dif_neg]
      · exact k3.tup
      · intro e
        have : vs.length = 1 := by rw [hl]; simpa using e
        match vs, this with
        | [v], _ => exact hne v rfl

theorem run_bodied (P : Program) (hM : MethFine P) : ∀ k, Bodied P (run P k)
  | 0 => ⟨hM, fun g args s q h => by simp [run] at h⟩
  | k + 1 => ⟨hM, fun g args s q h => by
    unfold run at h
    split at h
    · cases h
    · rename_i fn hfn
      split at h
      · cases h
      · rename_i c hc
        split at h
        · cases h
        · rename_i hn
          exact ⟨fn, hfn, by simpa using hn, by rw [hc]; rfl⟩⟩

theorem run_sound (hM : MethFine P) (hFr : ∀ k H T, CallFr H T (run P k)) (hD : ∀ call, Bodied P call → CallOk P B w0 call → DrawSound P call B w0) (hDQ : ∀ call, Bodied P call → CallOk P B w0 call → (∀ H T, CallFr H T call) → DrawSoundQ P call B w0) : ∀ k, CallOk P B w0 (run P k)
  | 0 => fun g args s v s' ι w args' h => by simp [run] at h
  | k + 1 => fun g args s v s' ι w args' h ha hW => by
    have ih := run_sound hM hFr hD hDQ k
    unfold run at h
    split at h
    · cases h
    · rename_i fn hfn
      split at h
      · cases h
      · rename_i c hc
        split at h
        · cases h
        · split at h
          · rename_i hlen
            refine calls_of_wp hfn hc ?_
            have hl := ha.1
            simp only [Array.length_toList] at hl
            have hF : FR fn.ntmps ι s w (frOf args) { tmps := args' ++ Array.replicate (fn.ntmps - args'.size) undef, defers := [] } := by
              refine ⟨by simp; omega, rfl, fun t => ?_⟩
              unfold frOf
              by_cases ht : t < args.length
              · have e1 : args.getD t (.tuple []) = args[t] := by simp [ht]
                have e2 : (args' ++ Array.replicate (fn.ntmps - args'.size) undef).getD t undef = args'[t]'(by omega) := by
                  simp only [Array.getD_eq_getD_getElem?]
                  rw [Array.getElem?_append_left (by omega)]
                  simp [show t < args'.size by omega]
                rw [e1, e2]
                exact ha.2 t _ _ (List.getElem?_eq_getElem ht) (by simp [show t < args'.size by omega])
              · have e1 : args.getD t (.tuple []) = .tuple [] := by simp [show args.length ≤ t by omega]
                have e2 : (args' ++ Array.replicate (fn.ntmps - args'.size) undef).getD t undef = undef := by
                  simp only [Array.getD_eq_getD_getElem?]
                  rw [Array.getElem?_append_right (by omega)]
                  rw [Array.getElem?_replicate]
                  split <;> rfl
                rw [e1, e2]; exact VR.undef _ _ _
            have hfin : ∀ fr s2 a w2, St P B w0 fn.ntmps ι s w fr s2 a w2 → retK P fn.results.toList fr s2 = some (v, s') →
                a.defers = [] ∧ ∃ v', (results fn a.tmps).run P w2 = .ok v' w2 ∧ ∃ v'' ι', Ending.returned v' = .returned v'' ∧ VR ι' s' w2 v v'' ∧ WR B w0 ι' s' w2 ∧ Later ι s w ι' s' w2 := by
              intro fr s2 a w2 ⟨ι2, k1, k2, k3⟩ h
              obtain ⟨rfl, v', g1, g2⟩ := results_sound h k1 k2
              exact ⟨k1.defers, v', g1, v', ι2, rfl, g2, k2, k3⟩
            exact exec_sound (run_bodied P hM k) ih (hD _ (run_bodied P hM k) ih) (hDQ _ (run_bodied P hM k) ih (hFr k)) c (topK P fn.results.toList) _ hfin (fun id fr s a w _ h => by simp [topK] at h) hfin (frOf args) s _ w ⟨ι, hF, hW, Later.refl _ _ _⟩ h
          · cases h
end
end Go.Proofs.YtjbgdpfkmcibbaaGreatDoor.Sim
