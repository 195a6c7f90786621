/- The abstract machine: how its runs are taken apart. Plain lemmas. No condition. -/
import Derived.Test.YtmaidlndikcgkaaSimB
namespace Go.Proofs.Ytmaidlndikcgkaa.Sim

def bodyOf (fn : Func) : Code := fn.body.getD .skip
def cL : Code → Code
  | .seq x _ => x
  | c => c
def cR : Code → Code
  | .seq _ y => y
  | c => c
def cT : Code → Code
  | .cond _ x _ => x
  | c => c
def cE : Code → Code
  | .cond _ _ y => y
  | c => c
def cB : Code → Code
  | .block _ b => b
  | .loop b => b
  | c => c
def isSeq : Code → Bool
  | .seq _ _ => true
  | _ => false
def condOf : Code → Option Operand
  | .cond c _ _ => some c
  | _ => none
def blockOf : Code → Option Nat
  | .block i _ => some i
  | _ => none
def isLoop : Code → Bool
  | .loop _ => true
  | _ => false

section
variable {α : Type} {P : Program} {call : CallA} {fuel nt : Nat}

theorem exec_seq {c : Code} (h : isSeq c = true) (K : Ks α) (fr : Fr) (s : Store) : exec P call fuel nt c K fr s = exec P call fuel nt (cL c) ⟨exec P call fuel nt (cR c) K, K.x, K.r⟩ fr s := by
  cases c <;> first | rfl | simp [isSeq] at h

theorem exec_n {c : Code} {n n' : FK α} {x : Nat → FK α} {r : FK α} (h : n = n') (fr : Fr) (s : Store) : exec P call fuel nt c ⟨n, x, r⟩ fr s = exec P call fuel nt c ⟨n', x, r⟩ fr s := by rw [h]

theorem exec_cond {c : Code} {o : Operand} (h : condOf c = some o) (K : Ks α) (fr : Fr) (s : Store) :
    exec P call fuel nt c K fr s = aIf (evalA fr o) (exec P call fuel nt (cT c) K fr s) (exec P call fuel nt (cE c) K fr s) := by
  cases c <;> first | (simp only [condOf, Option.some.injEq] at h; subst h; rfl) | simp [condOf] at h

theorem aIf_congr {c c' : AV} {x x' y y' : Option α} (hc : c = c') (hx : x = x') (hy : y = y') : aIf c x y = aIf c' x' y' := by rw [hc, hx, hy]

theorem exec_block {c : Code} {i : Nat} (h : blockOf c = some i) (K : Ks α) (fr : Fr) (s : Store) :
    exec P call fuel nt c K fr s = exec P call fuel nt (cB c) ⟨K.n, fun j => if j = i then K.n else K.x j, K.r⟩ fr s := by
  cases c <;> first | (simp only [blockOf, Option.some.injEq] at h; subst h; rfl) | simp [blockOf] at h

theorem exec_loop {c : Code} (h : isLoop c = true) (K : Ks α) (fr : Fr) (s : Store) :
    exec P call fuel nt c K fr s = loopN (fun rec => exec P call fuel nt (cB c) ⟨rec, K.x, K.r⟩) fuel fr s := by
  cases c <;> first | rfl | simp [isLoop] at h

/-- A loop's rounds, as a plain function. -/
def iterF {φ : Type} (z : φ) (b : φ → φ) : Nat → φ
  | 0 => z
  | n + 1 => b (iterF z b n)

theorem loopN_iter {φ : Type} {b : FK α → FK α} {z : φ} {B : φ → φ} (lift : φ → FK α) (hz : lift z = fun _ _ => none) (hb : ∀ R, b (lift R) = lift (B R)) (n : Nat) : loopN b n = lift (iterF z B n) := by
  induction n with
  | zero => exact hz.symm
  | succ n ih =>
    show b (loopN b n) = lift (B (iterF z B n))
    rw [ih, hb]
end

def opsOf (c : Code) : Array Oper := match c with | .region _ ops _ => ops | _ => #[]
def idOf (c : Code) : Nat := match c with | .region id _ _ => id | _ => 0
/-- A region whose order is drawn: what it waits for, worked out. -/
theorem exec_draw {α : Type} {P : Program} {call : CallA} {fuel nt : Nat} {c : Code} (b : List Nat) (hc : c = .region (idOf c) (opsOf c) true) (hb : (CheckFast.beforeF (opsOf c)).toList = b) (hok : drawOk P (opsOf c) ((opsOf c).toList.map (rowOf P (opsOf c))) b = true) (K : Ks α) (fr : Fr) (s : Store) :
    exec P call fuel nt c K fr s = execDraw P call nt (opsOf c) b.toArray K.n ((opsOf c).toList.zipIdx.map fun p => (p.2, p.1)) [] fr s := by
  generalize opsOf c = ops at *
  generalize idOf c = id at *
  subst hc
  simp only [exec, forceL_eq, forceRows_eq, hb, hok]
/-- One in which new rows are made without an order. -/
theorem exec_drawQ {α : Type} {P : Program} {call : CallA} {fuel nt : Nat} {c : Code} (b : List Nat) (hc : c = .region (idOf c) (opsOf c) true) (hb : (CheckFast.beforeF (opsOf c)).toList = b) (hno : drawOk P (opsOf c) ((opsOf c).toList.map (rowOf P (opsOf c))) b = false) (hok : drawOk P (opsOf c) ((opsOf c).toList.map (rowOf2 P (opsOf c))) b = true) (K : Ks α) (fr : Fr) (s : Store) :
    exec P call fuel nt c K fr s = execDrawQ P call nt (opsOf c) b.toArray s.next K.n ((opsOf c).toList.zipIdx.map fun p => (p.2, p.1)) [] fr (reserve (opsOf c).size s) := by
  generalize opsOf c = ops at *
  generalize idOf c = id at *
  subst hc
  simp only [exec, forceL_eq, forceRows_eq, hb, hno, hok]
end Go.Proofs.Ytmaidlndikcgkaa.Sim
