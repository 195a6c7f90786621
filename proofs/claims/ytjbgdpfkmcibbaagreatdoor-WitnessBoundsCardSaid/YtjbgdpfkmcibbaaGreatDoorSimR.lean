/- The abstract machine: how its runs are taken apart. Plain lemmas. No condition. -/
import Derived.Test.YtjbgdpfkmcibbaaGreatDoorSimB
import Derived.KernelRfl
namespace Go.Proofs.YtjbgdpfkmcibbaaGreatDoor.Sim

def bodyOf (fn : Func) : Code := fn.body.getD .skip
def cL : Code → Code
  | .seq x _ => x
  | c => c
def cR : Code → Code
  | .seq _ y => y
  | c => c
def cT : Code → Code
  | .cond _ x _ => x
  | c => c
def cE : Code → Code
  | .cond _ _ y => y
  | c => c
def cB : Code → Code
  | .block _ b => b
  | .loop b => b
  | c => c
def isSeq : Code → Bool
  | .seq _ _ => true
  | _ => false
def condOf : Code → Option Operand
  | .cond c _ _ => some c
  | _ => none
def blockOf : Code → Option Nat
  | .block i _ => some i
  | _ => none
def isLoop : Code → Bool
  | .loop _ => true
  | _ => false

section
variable {α : Type} {P : Program} {call : CallA} {fuel nt : Nat}

theorem exec_seq {c : Code} (h : isSeq c = true) (K : Ks α) (fr : Fr) (s : Store) : exec P call fuel nt c K fr s = exec P call fuel nt (cL c) ⟨exec P call fuel nt (cR c) K, K.x, K.r⟩ fr s := by
  cases c <;> first | rfl | simp [isSeq] at h

theorem exec_n {c : Code} {n n' : FK α} {x : Nat → FK α} {r : FK α} (h : n = n') (fr : Fr) (s : Store) : exec P call fuel nt c ⟨n, x, r⟩ fr s = exec P call fuel nt c ⟨n', x, r⟩ fr s := by rw [h]

theorem exec_cond {c : Code} {o : Operand} (h : condOf c = some o) (K : Ks α) (fr : Fr) (s : Store) :
    exec P call fuel nt c K fr s = aIf (evalA fr o) (exec P call fuel nt (cT c) K fr s) (exec P call fuel nt (cE c) K fr s) := by
  cases c <;> first | (simp only [condOf, Option.some.injEq] at h; subst h; rfl) | simp [condOf] at h

theorem aIf_congr {c c' : AV} {x x' y y' : Option α} (hc : c = c') (hx : x = x') (hy : y = y') : aIf c x y = aIf c' x' y' := by rw [hc, hx, hy]

theorem exec_block {c : Code} {i : Nat} (h : blockOf c = some i) (K : Ks α) (fr : Fr) (s : Store) :
    exec P call fuel nt c K fr s = exec P call fuel nt (cB c) ⟨K.n, fun j => if j = i then K.n else K.x j, K.r⟩ fr s := by
  cases c <;> first | (simp only [blockOf, Option.some.injEq] at h; subst h; rfl) | simp [blockOf] at h

theorem exec_loop {c : Code} (h : isLoop c = true) (K : Ks α) (fr : Fr) (s : Store) :
    exec P call fuel nt c K fr s = loopN (fun rec => exec P call fuel nt (cB c) ⟨rec, K.x, K.r⟩) fuel fr s := by
  cases c <;> first | rfl | simp [isLoop] at h

/-- A loop's rounds, as a plain function. -/
def iterF {φ : Type} (z : φ) (b : φ → φ) : Nat → φ
  | 0 => z
  | n + 1 => b (iterF z b n)

theorem loopN_iter {φ : Type} {b : FK α → FK α} {z : φ} {B : φ → φ} (lift : φ → FK α) (hz : lift z = fun _ _ => none) (hb : ∀ R, b (lift R) = lift (B R)) (n : Nat) : loopN b n = lift (iterF z B n) := by
  induction n with
  | zero => exact hz.symm
  | succ n ih =>
    show b (loopN b n) = lift (B (iterF z B n))
    rw [ih, hb]
end

theorem run_eq {P : Program} {f : Nat} {fn : Func} (hf : P.funcs[f]? = some fn) (hb : fn.body = some (bodyOf fn)) (hn : (fn.name == "runtime.NumGoroutine") = false) {args : List AV} (ha : decide (args.length ≤ fn.ntmps) = true) (k : Nat) (s : Store) :
    run P (k + 1) f args s = exec P (run P k) k fn.ntmps (bodyOf fn) (topK P fn.results.toList) (frOf args) s := by
  have ha' := of_decide_eq_true ha
  simp only [run, hf]
  rw [hb]
  simp only [hn, if_pos ha']
  rfl

def opsOf (c : Code) : Array Oper := match c with | .region _ ops _ => ops | _ => #[]
def idOf (c : Code) : Nat := match c with | .region id _ _ => id | _ => 0
/-- A region whose order is drawn: what it waits for, worked out. -/
theorem exec_draw {α : Type} {P : Program} {call : CallA} {fuel nt : Nat} {c : Code} (b : List Nat) (hc : c = .region (idOf c) (opsOf c) true) (hb : (CheckFast.beforeF (opsOf c)).toList = b) (hok : drawOk P (opsOf c) ((opsOf c).toList.map (rowOf P (opsOf c))) b = true) (K : Ks α) (fr : Fr) (s : Store) :
    exec P call fuel nt c K fr s = execDraw P call nt (opsOf c) b.toArray K.n ((opsOf c).toList.zipIdx.map fun p => (p.2, p.1)) [] fr s := by
  generalize opsOf c = ops at *
  generalize idOf c = id at *
  subst hc
  simp only [exec, forceL_eq, forceRows_eq, hb, hok]
/-- One in which new rows are made without an order. -/
theorem exec_drawQ {α : Type} {P : Program} {call : CallA} {fuel nt : Nat} {c : Code} (b : List Nat) (hc : c = .region (idOf c) (opsOf c) true) (hb : (CheckFast.beforeF (opsOf c)).toList = b) (hno : drawOk P (opsOf c) ((opsOf c).toList.map (rowOf P (opsOf c))) b = false) (hok : drawOk P (opsOf c) ((opsOf c).toList.map (rowOf2 P (opsOf c))) b = true) (K : Ks α) (fr : Fr) (s : Store) :
    exec P call fuel nt c K fr s = execDrawQ P call nt (opsOf c) b.toArray s.next K.n ((opsOf c).toList.zipIdx.map fun p => (p.2, p.1)) [] fr (reserve (opsOf c).size s) := by
  generalize opsOf c = ops at *
  generalize idOf c = id at *
  subst hc
  simp only [exec, forceL_eq, forceRows_eq, hb, hno, hok]

/-! ### a function's run, piece by piece -/
abbrev Rz := Option (AV × Store)
abbrev Kz := Fr → Store → Rz
abbrev Ar0 := Store → Rz
abbrev Ar1 := AV → Ar0
abbrev Ar2 := AV → Ar1
abbrev Ar3 := AV → Ar2
abbrev Ar4 := AV → Ar3
abbrev Ar5 := AV → Ar4
abbrev Ar6 := AV → Ar5
abbrev Ar7 := AV → Ar6
abbrev Ar8 := AV → Ar7
abbrev Ar9 := AV → Ar8
abbrev Ar10 := AV → Ar9
abbrev Ar11 := AV → Ar10
abbrev Ar12 := AV → Ar11
abbrev Ar13 := AV → Ar12
abbrev Ar14 := AV → Ar13
abbrev Ar15 := AV → Ar14
abbrev Ar16 := AV → Ar15
abbrev Ar17 := AV → Ar16
abbrev Ar18 := AV → Ar17
abbrev Ar19 := AV → Ar18
abbrev Ar20 := AV → Ar19
abbrev Ar21 := AV → Ar20
abbrev Ar22 := AV → Ar21
abbrev Ar23 := AV → Ar22
abbrev Ar24 := AV → Ar23
/-- No block to leave. -/
def xN : Nat → Kz := fun _ _ _ => none
/-- A block more. -/
def xB (i : Nat) (n : Kz) (x : Nat → Kz) : Nat → Kz := fun j => if j = i then n else x j
theorem fE {f g : Kz} (h : ∀ fr s, f fr s = g fr s) : f = g := funext fun fr => funext fun s => h fr s
theorem lE {f g : Kz} (h : ∀ fr s, f fr s = g fr s := by intro fr s; kernel_rfl) : f = g := fE h
def condO (c : Code) : Operand := (condOf c).getD (.tmp 0)
section
variable {P : Program} {call : CallA} {fuel nt : Nat} {c : Code} {n m q r : Kz} {x : Nat → Kz}
theorem seqE (h2 : exec P call fuel nt (cR c) ⟨n, x, r⟩ = m) (h1 : exec P call fuel nt (cL c) ⟨m, x, r⟩ = q) (h : isSeq c = true := by kernel_rfl) : exec P call fuel nt c ⟨n, x, r⟩ = q := fE fun fr s => by
  rw [exec_seq h]
  subst h2
  exact congrFun (congrFun h1 fr) s
theorem condE {a b : Kz} (h1 : exec P call fuel nt (cT c) ⟨n, x, r⟩ = a) (h2 : exec P call fuel nt (cE c) ⟨n, x, r⟩ = b) (h : condOf c = some (condO c) := by kernel_rfl) (hq : ∀ fr s, aIf (evalA fr (condO c)) (a fr s) (b fr s) = q fr s := by intro fr s; kernel_rfl) : exec P call fuel nt c ⟨n, x, r⟩ = q := fE fun fr s => by
  rw [exec_cond h, h1, h2, hq]
theorem blockE {i : Nat} (h1 : exec P call fuel nt (cB c) ⟨n, xB i n x, r⟩ = q) (h : blockOf c = some i := by kernel_rfl) : exec P call fuel nt c ⟨n, x, r⟩ = q := fE fun fr s => by
  rw [exec_block h]
  exact congrFun (congrFun h1 fr) s
theorem loopE {φ : Type} {z : φ} {B : φ → φ} (lift : φ → Kz) (hz : lift z = fun _ _ => none) (hb : ∀ R, exec P call fuel nt (cB c) ⟨lift R, x, r⟩ = lift (B R)) (h : isLoop c = true := by kernel_rfl) : exec P call fuel nt c ⟨n, x, r⟩ = lift (iterF z B fuel) := fE fun fr s => by
  rw [exec_loop h]
  exact congrFun (congrFun (loopN_iter lift hz hb fuel) fr) s
theorem drawE (b : List Nat) (hc : c = .region (idOf c) (opsOf c) true := by kernel_rfl) (hb : (CheckFast.beforeF (opsOf c)).toList = b := by kernel_rfl) (hok : drawOk P (opsOf c) ((opsOf c).toList.map (rowOf P (opsOf c))) b = true := by kernel_rfl) (h : ∀ fr s, execDraw P call nt (opsOf c) b.toArray n ((opsOf c).toList.zipIdx.map fun p => (p.2, p.1)) [] fr s = q fr s := by intro fr s; kernel_rfl) : exec P call fuel nt c ⟨n, x, r⟩ = q := fE fun fr s => (exec_draw b hc hb hok _ fr s).trans (h fr s)
theorem drawQE (b : List Nat) (hc : c = .region (idOf c) (opsOf c) true := by kernel_rfl) (hb : (CheckFast.beforeF (opsOf c)).toList = b := by kernel_rfl) (hno : drawOk P (opsOf c) ((opsOf c).toList.map (rowOf P (opsOf c))) b = false := by kernel_rfl) (hok : drawOk P (opsOf c) ((opsOf c).toList.map (rowOf2 P (opsOf c))) b = true := by kernel_rfl) (h : ∀ fr s, execDrawQ P call nt (opsOf c) b.toArray s.next n ((opsOf c).toList.zipIdx.map fun p => (p.2, p.1)) [] fr (reserve (opsOf c).size s) = q fr s := by intro fr s; kernel_rfl) : exec P call fuel nt c ⟨n, x, r⟩ = q := fE fun fr s => (exec_drawQ b hc hb hno hok _ fr s).trans (h fr s)
end
end Go.Proofs.YtjbgdpfkmcibbaaGreatDoor.Sim
