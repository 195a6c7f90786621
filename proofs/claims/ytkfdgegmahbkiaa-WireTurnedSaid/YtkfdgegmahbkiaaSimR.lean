/- The abstract machine: how its runs are taken apart. Plain lemmas. No condition. -/
import Derived.Test.YtkfdgegmahbkiaaSimB
import Derived.KernelRfl
namespace Go.Proofs.Ytkfdgegmahbkiaa.Sim

def bodyOf (fn : Func) : Code := fn.body.getD .skip
def cL : Code → Code
  | .seq x _ => x
  | c => c
def cR : Code → Code
  | .seq _ y => y
  | c => c
def cT : Code → Code
  | .cond _ x _ => x
  | c => c
def cE : Code → Code
  | .cond _ _ y => y
  | c => c
def cB : Code → Code
  | .block _ b => b
  | .loop b => b
  | c => c
def isSeq : Code → Bool
  | .seq _ _ => true
  | _ => false
def condOf : Code → Option Operand
  | .cond c _ _ => some c
  | _ => none
def blockOf : Code → Option Nat
  | .block i _ => some i
  | _ => none
def isLoop : Code → Bool
  | .loop _ => true
  | _ => false

section
variable {α : Type} {P : Program} {call : CallA} {fuel nt : Nat}

theorem exec_seq {c : Code} (h : isSeq c = true) (K : Ks α) (fr : Fr) (s : Store) : exec P call fuel nt c K fr s = exec P call fuel nt (cL c) ⟨exec P call fuel nt (cR c) K, K.x, K.r⟩ fr s := by
  cases c <;> first | rfl | simp [isSeq] at h

theorem exec_cond {c : Code} {o : Operand} (h : condOf c = some o) (K : Ks α) (fr : Fr) (s : Store) :
    exec P call fuel nt c K fr s = aIf (evalA fr o) (exec P call fuel nt (cT c) K fr s) (exec P call fuel nt (cE c) K fr s) := by
  cases c <;> first | (simp only [condOf, Option.some.injEq] at h; subst h; rfl) | simp [condOf] at h

theorem exec_block {c : Code} {i : Nat} (h : blockOf c = some i) (K : Ks α) (fr : Fr) (s : Store) :
    exec P call fuel nt c K fr s = exec P call fuel nt (cB c) ⟨K.n, fun j => if j = i then K.n else K.x j, K.r⟩ fr s := by
  cases c <;> first | (simp only [blockOf, Option.some.injEq] at h; subst h; rfl) | simp [blockOf] at h

theorem exec_loop {c : Code} (h : isLoop c = true) (K : Ks α) (fr : Fr) (s : Store) :
    exec P call fuel nt c K fr s = loopN (fun rec => exec P call fuel nt (cB c) ⟨rec, K.x, K.r⟩) fuel fr s := by
  cases c <;> first | rfl | simp [isLoop] at h

/-- A loop's rounds, as a plain function. -/
def iterF {φ : Type} (z : φ) (b : φ → φ) : Nat → φ
  | 0 => z
  | n + 1 => b (iterF z b n)

theorem loopN_iter {φ : Type} {b : FK α → FK α} {z : φ} {B : φ → φ} (lift : φ → FK α) (hz : lift z = fun _ _ => none) (hb : ∀ R, b (lift R) = lift (B R)) (n : Nat) : loopN b n = lift (iterF z B n) := by
  induction n with
  | zero => exact hz.symm
  | succ n ih =>
    show b (loopN b n) = lift (B (iterF z B n))
    rw [ih, hb]
end

def opsOf (c : Code) : Array Oper := match c with | .region _ ops _ => ops | _ => #[]
def idOf (c : Code) : Nat := match c with | .region id _ _ => id | _ => 0
/-- A region whose order is drawn: what it waits for, worked out. -/
theorem exec_draw {α : Type} {P : Program} {call : CallA} {fuel nt : Nat} {c : Code} (b : List Nat) (hc : c = .region (idOf c) (opsOf c) true) (hb : (CheckFast.beforeF (opsOf c)).toList = b) (hok : drawOk P (opsOf c) ((opsOf c).toList.map (rowOf P (opsOf c))) b = true) (K : Ks α) (fr : Fr) (s : Store) :
    exec P call fuel nt c K fr s = execDraw P call nt (opsOf c) b.toArray K.n ((opsOf c).toList.zipIdx.map fun p => (p.2, p.1)) [] fr s := by
  generalize opsOf c = ops at *
  generalize idOf c = id at *
  subst hc
  simp only [exec, forceL_eq, forceRows_eq, hb, hok]
/-! ### a function's run, piece by piece -/
abbrev Rz := Option (AV × Store)
abbrev Kz := Fr → Store → Rz
abbrev Ar0 := Store → Rz
abbrev Ar1 := AV → Ar0
abbrev Ar2 := AV → Ar1
abbrev Ar3 := AV → Ar2
abbrev Ar4 := AV → Ar3
abbrev Ar5 := AV → Ar4
abbrev Ar6 := AV → Ar5
abbrev Ar7 := AV → Ar6
abbrev Ar8 := AV → Ar7
/-- No block to leave. -/
def xN : Nat → Kz := fun _ _ _ => none
/-- A block more. -/
def xB (i : Nat) (n : Kz) (x : Nat → Kz) : Nat → Kz := fun j => if j = i then n else x j
theorem fE {f g : Kz} (h : ∀ fr s, f fr s = g fr s) : f = g := funext fun fr => funext fun s => h fr s
theorem lE {f g : Kz} (h : ∀ fr s, f fr s = g fr s := by intro fr s; kernel_rfl) : f = g := fE h
def condO (c : Code) : Operand := (condOf c).getD (.tmp 0)
section
variable {P : Program} {call : CallA} {fuel nt : Nat} {c : Code} {n m q r : Kz} {x : Nat → Kz}
theorem seqE (h2 : exec P call fuel nt (cR c) ⟨n, x, r⟩ = m) (h1 : exec P call fuel nt (cL c) ⟨m, x, r⟩ = q) (h : isSeq c = true := by kernel_rfl) : exec P call fuel nt c ⟨n, x, r⟩ = q := fE fun fr s => by
  rw [exec_seq h]
  subst h2
  exact congrFun (congrFun h1 fr) s
theorem condE {a b : Kz} (h1 : exec P call fuel nt (cT c) ⟨n, x, r⟩ = a) (h2 : exec P call fuel nt (cE c) ⟨n, x, r⟩ = b) (h : condOf c = some (condO c) := by kernel_rfl) (hq : ∀ fr s, aIf (evalA fr (condO c)) (a fr s) (b fr s) = q fr s := by intro fr s; kernel_rfl) : exec P call fuel nt c ⟨n, x, r⟩ = q := fE fun fr s => by
  rw [exec_cond h, h1, h2, hq]
theorem blockE {i : Nat} (h1 : exec P call fuel nt (cB c) ⟨n, xB i n x, r⟩ = q) (h : blockOf c = some i := by kernel_rfl) : exec P call fuel nt c ⟨n, x, r⟩ = q := fE fun fr s => by
  rw [exec_block h]
  exact congrFun (congrFun h1 fr) s
theorem loopE {φ : Type} {z : φ} {B : φ → φ} (lift : φ → Kz) (hz : lift z = fun _ _ => none) (hb : ∀ R, exec P call fuel nt (cB c) ⟨lift R, x, r⟩ = lift (B R)) (h : isLoop c = true := by kernel_rfl) : exec P call fuel nt c ⟨n, x, r⟩ = lift (iterF z B fuel) := fE fun fr s => by
  rw [exec_loop h]
  exact congrFun (congrFun (loopN_iter lift hz hb fuel) fr) s
theorem drawE (b : List Nat) (hc : c = .region (idOf c) (opsOf c) true := by kernel_rfl) (hb : (CheckFast.beforeF (opsOf c)).toList = b := by kernel_rfl) (hok : drawOk P (opsOf c) ((opsOf c).toList.map (rowOf P (opsOf c))) b = true := by kernel_rfl) (h : ∀ fr s, execDraw P call nt (opsOf c) b.toArray n ((opsOf c).toList.zipIdx.map fun p => (p.2, p.1)) [] fr s = q fr s := by intro fr s; kernel_rfl) : exec P call fuel nt c ⟨n, x, r⟩ = q := fE fun fr s => (exec_draw b hc hb hok _ fr s).trans (h fr s)
end
end Go.Proofs.Ytkfdgegmahbkiaa.Sim
