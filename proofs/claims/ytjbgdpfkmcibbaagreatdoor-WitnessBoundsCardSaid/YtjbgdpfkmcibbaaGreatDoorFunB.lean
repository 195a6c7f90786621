/- What the translated functions' runs on the abstract machine come to, by the session's program. No condition. -/
import Derived.Test.YtjbgdpfkmcibbaaGreatDoorProg
import Derived.Test.YtjbgdpfkmcibbaaGreatDoorSimR
import Derived.Test.YtjbgdpfkmcibbaaGreatDoorSpRn
import Derived.KernelRfl
namespace Go.Proofs.YtjbgdpfkmcibbaaGreatDoor.Sim
set_option linter.unusedVariables false
set_option maxRecDepth 100000
/-! unison/unisonref29.in: function 34 -/
noncomputable def F34.code : Code := bodyOf Tryz.f34
noncomputable def F34.rs : List ResultVar := Tryz.f34.results.toList
noncomputable abbrev F34.X (k : Nat) (c : Code) (n : Kz) (x : Nat → Kz) : Kz := exec Tryz.prog (rn k) k 16 c ⟨n, x, retK Tryz.prog F34.rs⟩
noncomputable def F34.p0 (k : Nat) (x0 x1 x2 : AV) (s : Store) : Rz :=
  aBin .lss x0 x1 fun v1 => aIf v1 (some (x1, s)) (aBin .gtr x0 x2 fun v2 => aIf v2 (some (x2, s)) (some (x0, s)))
noncomputable abbrev F34.q0 (k : Nat) : Kz := fun fr s => F34.p0 k (fr 0) (fr 1) (fr 2) s
theorem F34.e0 (k : Nat) : F34.X k F34.code (retK Tryz.prog F34.rs) xN = (F34.q0 k) := lE
noncomputable def F34.f (k : Nat) (a0 a1 a2 : AV) (s : Store) : Rz := F34.p0 k a0 a1 a2 s
theorem F34.eq (k : Nat) (a0 a1 a2 : AV) (s : Store) : rn (k + 1) 34 [a0, a1, a2] s = F34.f k a0 a1 a2 s :=
  (rn_eq Tryz.func34 (by kernel_rfl) (by kernel_rfl) (by kernel_rfl) k s (by kernel_rfl)).trans (congrFun (congrFun (F34.e0 k) (frOf [a0, a1, a2])) s)

/-! unison/unisonref29.Group: function 11 -/
noncomputable def F11.code : Code := bodyOf Tryz.f11
noncomputable def F11.rs : List ResultVar := Tryz.f11.results.toList
noncomputable abbrev F11.X (k : Nat) (c : Code) (n : Kz) (x : Nat → Kz) : Kz := exec Tryz.prog (rn k) k 20 c ⟨n, x, retK Tryz.prog F11.rs⟩
noncomputable def F11.p0 (k : Nat) (x0 x1 : AV) (s : Store) : Rz :=
  aNew [AV.int .i64 0, AV.int .i64 0, AV.int .i64 0, AV.int .i64 0, AV.int .i64 0, AV.int .i64 0, AV.int .i64 0, AV.int .i64 0, AV.int .i64 0, AV.int .i64 0, AV.int .i64 0, AV.int .i64 0, AV.int .i64 0, AV.int .i64 0, AV.int .i64 0, AV.int .i64 0] s fun v1 s2 => aBuild [(1, 1, (AV.int .i64 65536)), (3, 1, (AV.int .i64 2)), (4, 1, (AV.int .i64 8)), (5, 1, (AV.int .i64 64)), (6, 1, (AV.int .i64 16)), (7, 1, (AV.int .i64 4)), (8, 1, (AV.int .i64 8)), (10, 1, (AV.int .i64 64)), (11, 1, (AV.int .i64 1)), (12, 1, (AV.int .i64 1)), (13, 1, (AV.int .i64 3)), (14, 1, (AV.int .i64 1)), (15, 1, (AV.int .i64 8))] [AV.int .i64 0, AV.int .i64 0, AV.int .i64 0, AV.int .i64 0, AV.int .i64 0, AV.int .i64 0, AV.int .i64 0, AV.int .i64 0, AV.int .i64 0, AV.int .i64 0, AV.int .i64 0, AV.int .i64 0, AV.int .i64 0, AV.int .i64 0, AV.int .i64 0, AV.int .i64 0] fun c3 => aNew [AV.int .i64 0, AV.int .i64 0, AV.int .i64 0, AV.int .i64 0, AV.int .i64 0, AV.int .i64 0, AV.int .i64 0, AV.int .i64 0, AV.int .i64 0, AV.int .i64 0, AV.int .i64 0, AV.int .i64 0, AV.int .i64 0, AV.int .i64 0, AV.int .i64 0, AV.int .i64 0] s2 fun v4 s5 => aStore 16 v4 (AV.agg c3) s5 fun s6 => (rn k 34 [x0, (AV.int .i64 1), (AV.int .i64 64)] s6).bind fun q7 => aFieldAddr 0 v4 fun v8 => aStore 1 v8 q7.1 q7.2 fun s9 => (rn k 34 [x1, (AV.int .i64 0), (AV.int .i64 1048576)] s9).bind fun q10 => aFieldAddr 2 v4 fun v11 => aStore 1 v11 q10.1 q10.2 fun s12 => aFieldAddr 2 v4 fun v13 => aLoad1 v13 s12 fun v14 => aFieldAddr 2 v4 fun v15 => aLoad1 v15 s12 fun v16 => aBin .add v14 v16 fun v17 => aFieldAddr 9 v4 fun v18 => aStore 1 v18 v17 s12 fun s19 => aLoadN 16 v4 s19 fun v20 => aStore 16 v1 v20 s19 fun s21 => aLoadN 16 v1 s21 fun v22 => some (v22, s21)
noncomputable abbrev F11.q0 (k : Nat) : Kz := fun fr s => F11.p0 k (fr 0) (fr 1) s
theorem F11.e0 (k : Nat) : F11.X k F11.code (retK Tryz.prog F11.rs) xN = (F11.q0 k) := lE
noncomputable def F11.f (k : Nat) (a0 a1 : AV) (s : Store) : Rz := F11.p0 k a0 a1 s
theorem F11.eq (k : Nat) (a0 a1 : AV) (s : Store) : rn (k + 1) 11 [a0, a1] s = F11.f k a0 a1 s :=
  (rn_eq Tryz.func11 (by kernel_rfl) (by kernel_rfl) (by kernel_rfl) k s (by kernel_rfl)).trans (congrFun (congrFun (F11.e0 k) (frOf [a0, a1])) s)

/-! unison/witness.Group: function 14 -/
noncomputable def F14.code : Code := bodyOf Tryz.f14
noncomputable def F14.rs : List ResultVar := Tryz.f14.results.toList
noncomputable abbrev F14.X (k : Nat) (c : Code) (n : Kz) (x : Nat → Kz) : Kz := exec Tryz.prog (rn k) k 15 c ⟨n, x, retK Tryz.prog F14.rs⟩
noncomputable def F14.p0 (k : Nat) (x0 x1 : AV) (s : Store) : Rz :=
  aNew [AV.int .i64 0, AV.int .i64 0, AV.int .i64 0, AV.int .i64 0, AV.int .i64 0, AV.int .i64 0, AV.int .i64 0, AV.int .i64 0, AV.int .i64 0, AV.int .i64 0, AV.int .i64 0, AV.int .i64 0, AV.int .i64 0, AV.int .i64 0, AV.int .i64 0, AV.int .i64 0] s fun v1 s2 => aMinL x1 [(AV.int .i64 1048576)] fun v3 => aMaxL (AV.int .i64 0) [v3] fun v4 => aMinL x0 [(AV.int .i64 64)] fun v5 => aMaxL (AV.int .i64 1) [v5] fun v6 => aBin .mul (AV.int .i64 2) v4 fun v7 => aBuild [(0, 1, v6), (1, 1, (AV.int .i64 65536)), (2, 1, v4), (3, 1, (AV.int .i64 2)), (4, 1, (AV.int .i64 8)), (5, 1, (AV.int .i64 64)), (6, 1, (AV.int .i64 16)), (7, 1, (AV.int .i64 4)), (8, 1, (AV.int .i64 8)), (9, 1, v7), (10, 1, (AV.int .i64 64)), (11, 1, (AV.int .i64 1)), (12, 1, (AV.int .i64 1)), (13, 1, (AV.int .i64 3)), (14, 1, (AV.int .i64 1)), (15, 1, (AV.int .i64 8))] [AV.int .i64 0, AV.int .i64 0, AV.int .i64 0, AV.int .i64 0, AV.int .i64 0, AV.int .i64 0, AV.int .i64 0, AV.int .i64 0, AV.int .i64 0, AV.int .i64 0, AV.int .i64 0, AV.int .i64 0, AV.int .i64 0, AV.int .i64 0, AV.int .i64 0, AV.int .i64 0] fun c8 => aStore 16 v1 (AV.agg c8) s2 fun s9 => aLoadN 16 v1 s9 fun v10 => some (v10, s9)
noncomputable abbrev F14.q0 (k : Nat) : Kz := fun fr s => F14.p0 k (fr 0) (fr 1) s
theorem F14.e0 (k : Nat) : F14.X k F14.code (retK Tryz.prog F14.rs) xN = (F14.q0 k) := lE
noncomputable def F14.f (k : Nat) (a0 a1 : AV) (s : Store) : Rz := F14.p0 k a0 a1 s
theorem F14.eq (k : Nat) (a0 a1 : AV) (s : Store) : rn (k + 1) 14 [a0, a1] s = F14.f k a0 a1 s :=
  (rn_eq Tryz.func14 (by kernel_rfl) (by kernel_rfl) (by kernel_rfl) k s (by kernel_rfl)).trans (congrFun (congrFun (F14.e0 k) (frOf [a0, a1])) s)

/-! unison/proc.May$1: function 60 -/
noncomputable def F60.code : Code := bodyOf Tryz.f60
noncomputable def F60.rs : List ResultVar := Tryz.f60.results.toList
noncomputable abbrev F60.X (k : Nat) (c : Code) (n : Kz) (x : Nat → Kz) : Kz := exec Tryz.prog (rn k) k 4 c ⟨n, x, retK Tryz.prog F60.rs⟩
noncomputable def F60.p0 (k : Nat) (x0 : AV) (s : Store) : Rz :=
  some (x0, s)
noncomputable abbrev F60.q0 (k : Nat) : Kz := fun fr s => F60.p0 k (fr 0) s
theorem F60.e0 (k : Nat) : F60.X k F60.code (retK Tryz.prog F60.rs) xN = (F60.q0 k) := lE
noncomputable def F60.f (k : Nat) (a0 : AV) (s : Store) : Rz := F60.p0 k a0 s
theorem F60.eq (k : Nat) (a0 : AV) (s : Store) : rn (k + 1) 60 [a0] s = F60.f k a0 s :=
  (rn_eq Tryz.func60 (by kernel_rfl) (by kernel_rfl) (by kernel_rfl) k s (by kernel_rfl)).trans (congrFun (congrFun (F60.e0 k) (frOf [a0])) s)

/-! unison/proc.within: function 61 -/
noncomputable def F61.code : Code := bodyOf Tryz.f61
noncomputable def F61.rs : List ResultVar := Tryz.f61.results.toList
noncomputable abbrev F61.X (k : Nat) (c : Code) (n : Kz) (x : Nat → Kz) : Kz := exec Tryz.prog (rn k) k 24 c ⟨n, x, retK Tryz.prog F61.rs⟩
noncomputable abbrev F61.c0 : Code := cR F61.code
noncomputable abbrev F61.c1 : Code := cR F61.c0
noncomputable def F61.p0 (k : Nat) (s : Store) : Rz :=
  some ((AV.bool true), s)
noncomputable abbrev F61.q0 (k : Nat) : Kz := fun fr s => F61.p0 k s
theorem F61.e0 (k : Nat) : F61.X k F61.c1 (retK Tryz.prog F61.rs) xN = (F61.q0 k) := lE
noncomputable abbrev F61.c2 : Code := cL F61.c0
noncomputable abbrev F61.c3 : Code := cR F61.c2
noncomputable abbrev F61.x0 (k : Nat) : Nat → Kz := xB 0 (F61.q0 k) xN
noncomputable abbrev F61.c4 : Code := cB F61.c3
noncomputable abbrev F61.c5 : Code := cB F61.c4
noncomputable abbrev F61.c6 : Code := cR F61.c5
noncomputable abbrev F61.c7 : Code := cR F61.c6
noncomputable abbrev F61.c8 : Code := cR F61.c7
noncomputable def F61.p1 (k : Nat) (R0 : Ar5) (x0 x1 x9 x10 x11 : AV) (s : Store) : Rz :=
  aBin .add x11 (AV.int .i64 1) fun v1 => R0 x0 x1 x9 x10 v1 s
noncomputable abbrev F61.q1 (k : Nat) (R0 : Ar5) : Kz := fun fr s => F61.p1 k R0 (fr 0) (fr 1) (fr 9) (fr 10) (fr 11) s
theorem F61.e1 (k : Nat) (R0 : Ar5) : F61.X k F61.c8 (fun fr s => R0 (fr 0) (fr 1) (fr 9) (fr 10) (fr 11) s) (F61.x0 k) = (F61.q1 k R0) := lE
noncomputable abbrev F61.c9 : Code := cL F61.c7
noncomputable abbrev F61.x1 (k : Nat) (R0 : Ar5) : Nat → Kz := xB 1 (F61.q1 k R0) (F61.x0 k)
noncomputable abbrev F61.c10 : Code := cB F61.c9
noncomputable def F61.p2 (k : Nat) (R0 : Ar5) (x0 x1 x9 x10 x11 : AV) (s : Store) : Rz :=
  aIndexSl 1 x9 x11 fun v1 => aLoad1 v1 s fun v2 => aBin .lss v2 x0 fun v3 => (aGuard v3 false (some (v2, s)) (some (AV.tuple [], s))).bind fun g4 => (aGuard v3 false (some (x1, g4.2)) (some (AV.tuple [], g4.2))).bind fun g5 => (aGuard v3 false (aBin .gtr g4.1 g5.1 fun v7 => some (v7, g5.2)) (some (AV.tuple [], g5.2))).bind fun g6 => aPick v3 (AV.bool true) g6.1 fun v8 => aIf v8 (some ((AV.bool false), g6.2)) (F61.p1 k R0 x0 x1 x9 x10 x11 g6.2)
noncomputable abbrev F61.q2 (k : Nat) (R0 : Ar5) : Kz := fun fr s => F61.p2 k R0 (fr 0) (fr 1) (fr 9) (fr 10) (fr 11) s
theorem F61.e2 (k : Nat) (R0 : Ar5) : F61.X k F61.c10 (F61.q1 k R0) (F61.x1 k R0) = (F61.q2 k R0) := lE
theorem F61.e3 (k : Nat) (R0 : Ar5) : F61.X k F61.c9 (F61.q1 k R0) (F61.x0 k) = (F61.q2 k R0) := blockE (i := 1) (F61.e2 k R0)
theorem F61.e4 (k : Nat) (R0 : Ar5) : F61.X k F61.c7 (fun fr s => R0 (fr 0) (fr 1) (fr 9) (fr 10) (fr 11) s) (F61.x0 k) = (F61.q2 k R0) := seqE (F61.e1 k R0) (F61.e3 k R0)
noncomputable abbrev F61.c11 : Code := cL F61.c6
noncomputable def F61.p3 (k : Nat) (R0 : Ar5) (x0 x1 x9 x10 x11 x12 : AV) (s : Store) : Rz :=
  aIf x12 (F61.p2 k R0 x0 x1 x9 x10 x11 s) (F61.p0 k s)
noncomputable abbrev F61.q3 (k : Nat) (R0 : Ar5) : Kz := fun fr s => F61.p3 k R0 (fr 0) (fr 1) (fr 9) (fr 10) (fr 11) (fr 12) s
theorem F61.e5 (k : Nat) (R0 : Ar5) : F61.X k F61.c11 (F61.q2 k R0) (F61.x0 k) = (F61.q3 k R0) := lE
theorem F61.e6 (k : Nat) (R0 : Ar5) : F61.X k F61.c6 (fun fr s => R0 (fr 0) (fr 1) (fr 9) (fr 10) (fr 11) s) (F61.x0 k) = (F61.q3 k R0) := seqE (F61.e4 k R0) (F61.e5 k R0)
noncomputable abbrev F61.c12 : Code := cL F61.c5
noncomputable def F61.p4 (k : Nat) (R0 : Ar5) (x0 x1 x9 x10 x11 : AV) (s : Store) : Rz :=
  aBin .lss x11 x10 fun v1 => F61.p3 k R0 x0 x1 x9 x10 x11 v1 s
noncomputable abbrev F61.q4 (k : Nat) (R0 : Ar5) : Kz := fun fr s => F61.p4 k R0 (fr 0) (fr 1) (fr 9) (fr 10) (fr 11) s
theorem F61.e7 (k : Nat) (R0 : Ar5) : F61.X k F61.c12 (F61.q3 k R0) (F61.x0 k) = (F61.q4 k R0) := lE
theorem F61.e8 (k : Nat) (R0 : Ar5) : F61.X k F61.c5 (fun fr s => R0 (fr 0) (fr 1) (fr 9) (fr 10) (fr 11) s) (F61.x0 k) = (F61.q4 k R0) := seqE (F61.e6 k R0) (F61.e7 k R0)
noncomputable def F61.l0 (k : Nat) : Nat → Ar5 := iterF (fun _ _ _ _ _ _ => none) (fun R0 x0 x1 x9 x10 x11 s => F61.p4 k R0 x0 x1 x9 x10 x11 s)
theorem F61.e9 (k : Nat) : F61.X k F61.c4 (F61.q0 k) (F61.x0 k) = (fun fr s => F61.l0 k k (fr 0) (fr 1) (fr 9) (fr 10) (fr 11) s) := loopE (fun R0 : Ar5 => (fun fr s => R0 (fr 0) (fr 1) (fr 9) (fr 10) (fr 11) s)) (z := (fun _ _ _ _ _ _ => none)) (B := (fun R0 x0 x1 x9 x10 x11 s => F61.p4 k R0 x0 x1 x9 x10 x11 s)) rfl (fun R0 => F61.e8 k R0)
theorem F61.e10 (k : Nat) : F61.X k F61.c3 (F61.q0 k) xN = (fun fr s => F61.l0 k k (fr 0) (fr 1) (fr 9) (fr 10) (fr 11) s) := blockE (i := 0) (F61.e9 k)
noncomputable abbrev F61.c13 : Code := cL F61.c2
noncomputable def F61.p5 (k : Nat) (x0 x1 x2 : AV) (s : Store) : Rz :=
  aLen x2 fun v1 => F61.l0 k k x0 x1 x2 v1 (AV.int .i64 0) s
noncomputable abbrev F61.q5 (k : Nat) : Kz := fun fr s => F61.p5 k (fr 0) (fr 1) (fr 2) s
theorem F61.e11 (k : Nat) : F61.X k F61.c13 (fun fr s => F61.l0 k k (fr 0) (fr 1) (fr 9) (fr 10) (fr 11) s) xN = (F61.q5 k) := lE
theorem F61.e12 (k : Nat) : F61.X k F61.c2 (F61.q0 k) xN = (F61.q5 k) := seqE (F61.e10 k) (F61.e11 k)
theorem F61.e13 (k : Nat) : F61.X k F61.c0 (retK Tryz.prog F61.rs) xN = (F61.q5 k) := seqE (F61.e0 k) (F61.e12 k)
noncomputable abbrev F61.c14 : Code := cL F61.code
noncomputable def F61.p6 (k : Nat) (x0 x1 x2 : AV) (s : Store) : Rz :=
  F61.p5 k x0 x1 x2 s
noncomputable abbrev F61.q6 (k : Nat) : Kz := fun fr s => F61.p6 k (fr 0) (fr 1) (fr 2) s
theorem F61.e14 (k : Nat) : F61.X k F61.c14 (F61.q5 k) xN = (F61.q6 k) := lE
theorem F61.e15 (k : Nat) : F61.X k F61.code (retK Tryz.prog F61.rs) xN = (F61.q6 k) := seqE (F61.e13 k) (F61.e14 k)
noncomputable def F61.f (k : Nat) (a0 a1 a2 : AV) (s : Store) : Rz := F61.p6 k a0 a1 a2 s
theorem F61.eq (k : Nat) (a0 a1 a2 : AV) (s : Store) : rn (k + 1) 61 [a0, a1, a2] s = F61.f k a0 a1 a2 s :=
  (rn_eq Tryz.func61 (by kernel_rfl) (by kernel_rfl) (by kernel_rfl) k s (by kernel_rfl)).trans (congrFun (congrFun (F61.e15 k) (frOf [a0, a1, a2])) s)

/-! unison/proc.May: function 35 -/
noncomputable def F35.code : Code := bodyOf Tryz.f35
noncomputable def F35.rs : List ResultVar := Tryz.f35.results.toList
noncomputable abbrev F35.X (k : Nat) (c : Code) (n : Kz) (x : Nat → Kz) : Kz := exec Tryz.prog (rn k) k 123 c ⟨n, x, retK Tryz.prog F35.rs⟩
noncomputable abbrev F35.c0 : Code := cR F35.code
noncomputable abbrev F35.c1 : Code := cR F35.c0
noncomputable abbrev F35.c2 : Code := cR F35.c1
noncomputable def F35.p0 (k : Nat) (x1 : AV) (s : Store) : Rz :=
  aFieldAddr 11 x1 fun v1 => aLoad1 v1 s fun v2 => aFieldAddr 12 x1 fun v3 => aLoad1 v3 s fun v4 => aBuild [(0, 1, v2), (1, 1, v4)] [AV.int .i64 0, AV.int .i64 0] fun c5 => (rn k 61 [(AV.int .i64 1), (AV.int .i64 1048576), (AV.sl s.next 0 2 1 2)] (s.push (.cells c5 false))).bind fun q6 => (aGuard q6.1 true (aFieldAddr 13 x1 fun v8 => some (v8, q6.2)) (some (AV.tuple [], q6.2))).bind fun g7 => (aGuard q6.1 true (aLoad1 g7.1 g7.2 fun v10 => some (v10, g7.2)) (some (AV.tuple [], g7.2))).bind fun g9 => (aGuard q6.1 true (aBuild [(0, 1, g9.1)] [AV.int .i64 0] fun c12 => some ((AV.sl g9.2.next 0 1 1 1), (g9.2.push (.cells c12 false)))) (some (AV.tuple [], g9.2))).bind fun g11 => (aGuard q6.1 true ((rn k 61 [(AV.int .i64 1), (AV.int .i64 1099511627776), g11.1] g11.2).bind fun q14 => some (q14.1, q14.2)) (some (AV.tuple [], g11.2))).bind fun g13 => aPick q6.1 g13.1 (AV.bool false) fun v15 => (aGuard v15 true (aFieldAddr 14 x1 fun v17 => some (v17, g13.2)) (some (AV.tuple [], g13.2))).bind fun g16 => (aGuard v15 true (aLoad1 g16.1 g16.2 fun v19 => some (v19, g16.2)) (some (AV.tuple [], g16.2))).bind fun g18 => (aGuard v15 true (aBuild [(0, 1, g18.1)] [AV.int .i64 0] fun c21 => some ((AV.sl g18.2.next 0 1 1 1), (g18.2.push (.cells c21 false)))) (some (AV.tuple [], g18.2))).bind fun g20 => (aGuard v15 true ((rn k 61 [(AV.int .i64 0), (AV.int .i64 1099511627776), g20.1] g20.2).bind fun q23 => some (q23.1, q23.2)) (some (AV.tuple [], g20.2))).bind fun g22 => aPick v15 g22.1 (AV.bool false) fun v24 => (aGuard v24 true (aFieldAddr 13 x1 fun v26 => some (v26, g22.2)) (some (AV.tuple [], g22.2))).bind fun g25 => (aGuard v24 true (aLoad1 g25.1 g25.2 fun v28 => some (v28, g25.2)) (some (AV.tuple [], g25.2))).bind fun g27 => (aGuard v24 true (aFieldAddr 15 x1 fun v30 => some (v30, g27.2)) (some (AV.tuple [], g27.2))).bind fun g29 => (aGuard v24 true (aLoad1 g29.1 g29.2 fun v32 => some (v32, g29.2)) (some (AV.tuple [], g29.2))).bind fun g31 => (aGuard v24 true (aBuild [(0, 1, g31.1)] [AV.int .i64 0] fun c34 => some ((AV.sl g31.2.next 0 1 1 1), (g31.2.push (.cells c34 false)))) (some (AV.tuple [], g31.2))).bind fun g33 => (aGuard v24 true ((rn k 61 [g27.1, (AV.int .i64 1099511627776), g33.1] g33.2).bind fun q36 => some (q36.1, q36.2)) (some (AV.tuple [], g33.2))).bind fun g35 => aPick v24 g35.1 (AV.bool false) fun v37 => some (v37, g35.2)
noncomputable abbrev F35.q0 (k : Nat) : Kz := fun fr s => F35.p0 k (fr 1) s
theorem F35.e0 (k : Nat) : F35.X k F35.c2 (retK Tryz.prog F35.rs) xN = (F35.q0 k) := lE
noncomputable abbrev F35.c3 : Code := cL F35.c1
noncomputable abbrev F35.x0 (k : Nat) : Nat → Kz := xB 0 (F35.q0 k) xN
noncomputable abbrev F35.c4 : Code := cB F35.c3
noncomputable abbrev F35.c5 : Code := cR F35.c4
noncomputable abbrev F35.c6 : Code := cT F35.c5
noncomputable def F35.p1 (k : Nat) (s : Store) : Rz :=
  some ((AV.bool false), s)
noncomputable abbrev F35.q1 (k : Nat) : Kz := fun fr s => F35.p1 k s
theorem F35.e1 (k : Nat) : F35.X k F35.c6 (F35.q0 k) (F35.x0 k) = (F35.q1 k) := lE
noncomputable abbrev F35.c7 : Code := cE F35.c5
noncomputable abbrev F35.c8 : Code := cR F35.c7
noncomputable abbrev F35.c9 : Code := cT F35.c8
noncomputable def F35.p2 (k : Nat) (s : Store) : Rz :=
  some ((AV.bool false), s)
noncomputable abbrev F35.q2 (k : Nat) : Kz := fun fr s => F35.p2 k s
theorem F35.e2 (k : Nat) : F35.X k F35.c9 (F35.q0 k) (F35.x0 k) = (F35.q2 k) := lE
noncomputable abbrev F35.c10 : Code := cE F35.c8
noncomputable abbrev F35.c11 : Code := cR F35.c10
noncomputable abbrev F35.c12 : Code := cT F35.c11
noncomputable def F35.p3 (k : Nat) (s : Store) : Rz :=
  some ((AV.bool false), s)
noncomputable abbrev F35.q3 (k : Nat) : Kz := fun fr s => F35.p3 k s
theorem F35.e3 (k : Nat) : F35.X k F35.c12 (F35.q0 k) (F35.x0 k) = (F35.q3 k) := lE
noncomputable abbrev F35.c13 : Code := cE F35.c11
noncomputable abbrev F35.c14 : Code := cR F35.c13
noncomputable def F35.p4 (k : Nat) (x1 x70 : AV) (s : Store) : Rz :=
  aIf x70 (some ((AV.bool false), s)) (F35.p0 k x1 s)
noncomputable abbrev F35.q4 (k : Nat) : Kz := fun fr s => F35.p4 k (fr 1) (fr 70) s
theorem F35.e4 (k : Nat) : F35.X k F35.c14 (F35.q0 k) (F35.x0 k) = (F35.q4 k) := lE
noncomputable abbrev F35.c15 : Code := cL F35.c13
noncomputable abbrev F35.c16 : Code := cR F35.c15
noncomputable abbrev F35.c17 : Code := cT F35.c16
noncomputable def F35.p5 (k : Nat) (x1 x70 : AV) (s : Store) : Rz :=
  F35.p4 k x1 x70 s
noncomputable abbrev F35.q5 (k : Nat) : Kz := fun fr s => F35.p5 k (fr 1) (fr 70) s
theorem F35.e5 (k : Nat) : F35.X k F35.c17 (F35.q4 k) (F35.x0 k) = (F35.q5 k) := lE
noncomputable abbrev F35.c18 : Code := cE F35.c16
noncomputable def F35.p6 (k : Nat) (x1 x3 : AV) (s : Store) : Rz :=
  (some (x3, s)).bind fun q1 => (aFieldAddr 4 x1 fun v3 => some (v3, q1.2)).bind fun q2 => (aLoad1 q2.1 q2.2 fun v5 => some (v5, q2.2)).bind fun q4 => (aFieldAddr 8 x1 fun v7 => some (v7, q4.2)).bind fun q6 => (aLoad1 q6.1 q6.2 fun v9 => some (v9, q6.2)).bind fun q8 => (aBin .add q4.1 q8.1 fun v11 => some (v11, q8.2)).bind fun q10 => (aBin .add q10.1 (AV.int .i64 8) fun v13 => some (v13, q10.2)).bind fun q12 => (aCall (rn k) q1.1 [q12.1] q12.2 fun v15 s16 => some (v15, s16)).bind fun q14 => (some (x3, q14.2)).bind fun q17 => (aFieldAddr 10 x1 fun v19 => some (v19, q17.2)).bind fun q18 => (aLoad1 q18.1 q18.2 fun v21 => some (v21, q18.2)).bind fun q20 => (aLoad1 q18.1 q12.2 fun v22 => some (v22, q12.2)).bind fun z23 => aSame z23.1 q20.1 <| (aCall (rn k) q17.1 [q20.1] q20.2 fun v25 s26 => some (v25, s26)).bind fun q24 => (aBuild [(0, 1, q24.1)] [AV.int .i64 0] fun c28 => some ((AV.sl q24.2.next 0 1 1 1), (q24.2.push (.cells c28 false)))).bind fun q27 => ((rn k 61 [q14.1, (AV.int .i64 4096), q27.1] q27.2).bind fun q30 => some (q30.1, q30.2)).bind fun q29 => (aUn .not q29.1 fun v32 => some (v32, q29.2)).bind fun q31 => (some (q31.1, q31.2)).bind fun q33 => F35.p4 k x1 q33.1 q33.2
noncomputable abbrev F35.q6 (k : Nat) : Kz := fun fr s => F35.p6 k (fr 1) (fr 3) s
theorem F35.e6 (k : Nat) : F35.X k F35.c18 (F35.q4 k) (F35.x0 k) = (F35.q6 k) := drawE [0, 0, 2, 0, 8, 30, 62, 127, 0, 0, 512, 2047, 4095, 8191, 16383, 32767]
noncomputable def F35.p7 (k : Nat) (x1 x3 x70 : AV) (s : Store) : Rz :=
  aIf x70 (F35.p5 k x1 x70 s) (F35.p6 k x1 x3 s)
noncomputable abbrev F35.q7 (k : Nat) : Kz := fun fr s => F35.p7 k (fr 1) (fr 3) (fr 70) s
theorem F35.e7 (k : Nat) : F35.X k F35.c16 (F35.q4 k) (F35.x0 k) = (F35.q7 k) := condE (F35.e5 k) (F35.e6 k)
noncomputable abbrev F35.c19 : Code := cL F35.c15
noncomputable def F35.p8 (k : Nat) (x1 x3 : AV) (s : Store) : Rz :=
  (some (x3, s)).bind fun q1 => (aFieldAddr 2 x1 fun v3 => some (v3, q1.2)).bind fun q2 => (aLoad1 q2.1 q2.2 fun v5 => some (v5, q2.2)).bind fun q4 => (aCall (rn k) q1.1 [q4.1] q4.2 fun v7 s8 => some (v7, s8)).bind fun q6 => (some (x3, q6.2)).bind fun q9 => (aFieldAddr 9 x1 fun v11 => some (v11, q9.2)).bind fun q10 => (aLoad1 q10.1 q10.2 fun v13 => some (v13, q10.2)).bind fun q12 => (aLoad1 q10.1 q4.2 fun v14 => some (v14, q4.2)).bind fun z15 => aSame z15.1 q12.1 <| (aCall (rn k) q9.1 [q12.1] q12.2 fun v17 s18 => some (v17, s18)).bind fun q16 => (aBuild [(0, 1, q16.1)] [AV.int .i64 0] fun c20 => some ((AV.sl q16.2.next 0 1 1 1), (q16.2.push (.cells c20 false)))).bind fun q19 => ((rn k 61 [q6.1, (AV.int .i64 1073741824), q19.1] q19.2).bind fun q22 => some (q22.1, q22.2)).bind fun q21 => (aUn .not q21.1 fun v24 => some (v24, q21.2)).bind fun q23 => (some (q23.1, q23.2)).bind fun q25 => F35.p7 k x1 x3 q25.1 q25.2
noncomputable abbrev F35.q8 (k : Nat) : Kz := fun fr s => F35.p8 k (fr 1) (fr 3) s
theorem F35.e8 (k : Nat) : F35.X k F35.c19 (F35.q7 k) (F35.x0 k) = (F35.q8 k) := drawE [0, 0, 2, 7, 0, 0, 32, 127, 255, 511, 1023, 2047]
theorem F35.e9 (k : Nat) : F35.X k F35.c15 (F35.q4 k) (F35.x0 k) = (F35.q8 k) := seqE (F35.e7 k) (F35.e8 k)
theorem F35.e10 (k : Nat) : F35.X k F35.c13 (F35.q0 k) (F35.x0 k) = (F35.q8 k) := seqE (F35.e4 k) (F35.e9 k)
noncomputable def F35.p9 (k : Nat) (x1 x3 x48 : AV) (s : Store) : Rz :=
  aIf x48 (F35.p3 k s) (F35.p8 k x1 x3 s)
noncomputable abbrev F35.q9 (k : Nat) : Kz := fun fr s => F35.p9 k (fr 1) (fr 3) (fr 48) s
theorem F35.e11 (k : Nat) : F35.X k F35.c11 (F35.q0 k) (F35.x0 k) = (F35.q9 k) := condE (F35.e3 k) (F35.e10 k)
noncomputable abbrev F35.c20 : Code := cL F35.c10
noncomputable def F35.p10 (k : Nat) (x1 x3 : AV) (s : Store) : Rz :=
  aFieldAddr 6 x1 fun v1 => aLoad1 v1 s fun v2 => aCall (rn k) x3 [v2] s fun v3 s4 => aBuild [(0, 1, v3)] [AV.int .i64 0] fun c5 => (rn k 61 [(AV.int .i64 1), (AV.int .i64 4096), (AV.sl s4.next 0 1 1 1)] (s4.push (.cells c5 false))).bind fun q6 => aUn .not q6.1 fun v7 => aIf v7 (F35.p9 k x1 x3 v7 q6.2) (aFieldAddr 7 x1 fun v8 => aLoad1 v8 q6.2 fun v9 => aCall (rn k) x3 [v9] q6.2 fun v10 s11 => aBuild [(0, 1, v10)] [AV.int .i64 0] fun c12 => (rn k 61 [(AV.int .i64 1), (AV.int .i64 8), (AV.sl s11.next 0 1 1 1)] (s11.push (.cells c12 false))).bind fun q13 => aUn .not q13.1 fun v14 => aIf v14 (F35.p9 k x1 x3 v14 q13.2) (aFieldAddr 8 x1 fun v15 => aLoad1 v15 q13.2 fun v16 => aCall (rn k) x3 [v16] q13.2 fun v17 s18 => aBuild [(0, 1, v17)] [AV.int .i64 0] fun c19 => (rn k 61 [(AV.int .i64 1), (AV.int .i64 64), (AV.sl s18.next 0 1 1 1)] (s18.push (.cells c19 false))).bind fun q20 => aUn .not q20.1 fun v21 => F35.p9 k x1 x3 v21 q20.2))
noncomputable abbrev F35.q10 (k : Nat) : Kz := fun fr s => F35.p10 k (fr 1) (fr 3) s
theorem F35.e12 (k : Nat) : F35.X k F35.c20 (F35.q9 k) (F35.x0 k) = (F35.q10 k) := lE
theorem F35.e13 (k : Nat) : F35.X k F35.c10 (F35.q0 k) (F35.x0 k) = (F35.q10 k) := seqE (F35.e11 k) (F35.e12 k)
noncomputable def F35.p11 (k : Nat) (x1 x3 x26 : AV) (s : Store) : Rz :=
  aIf x26 (F35.p2 k s) (F35.p10 k x1 x3 s)
noncomputable abbrev F35.q11 (k : Nat) : Kz := fun fr s => F35.p11 k (fr 1) (fr 3) (fr 26) s
theorem F35.e14 (k : Nat) : F35.X k F35.c8 (F35.q0 k) (F35.x0 k) = (F35.q11 k) := condE (F35.e2 k) (F35.e13 k)
noncomputable abbrev F35.c21 : Code := cL F35.c7
noncomputable def F35.p12 (k : Nat) (x1 x3 : AV) (s : Store) : Rz :=
  aFieldAddr 3 x1 fun v1 => aLoad1 v1 s fun v2 => aCall (rn k) x3 [v2] s fun v3 s4 => aBuild [(0, 1, v3)] [AV.int .i64 0] fun c5 => (rn k 61 [(AV.int .i64 1), (AV.int .i64 64), (AV.sl s4.next 0 1 1 1)] (s4.push (.cells c5 false))).bind fun q6 => aUn .not q6.1 fun v7 => aIf v7 (F35.p11 k x1 x3 v7 q6.2) (aFieldAddr 4 x1 fun v8 => aLoad1 v8 q6.2 fun v9 => aCall (rn k) x3 [v9] q6.2 fun v10 s11 => aBuild [(0, 1, v10)] [AV.int .i64 0] fun c12 => (rn k 61 [(AV.int .i64 1), (AV.int .i64 64), (AV.sl s11.next 0 1 1 1)] (s11.push (.cells c12 false))).bind fun q13 => aUn .not q13.1 fun v14 => aIf v14 (F35.p11 k x1 x3 v14 q13.2) (aFieldAddr 5 x1 fun v15 => aLoad1 v15 q13.2 fun v16 => aCall (rn k) x3 [v16] q13.2 fun v17 s18 => aBuild [(0, 1, v17)] [AV.int .i64 0] fun c19 => (rn k 61 [(AV.int .i64 1), (AV.int .i64 4096), (AV.sl s18.next 0 1 1 1)] (s18.push (.cells c19 false))).bind fun q20 => aUn .not q20.1 fun v21 => F35.p11 k x1 x3 v21 q20.2))
noncomputable abbrev F35.q12 (k : Nat) : Kz := fun fr s => F35.p12 k (fr 1) (fr 3) s
theorem F35.e15 (k : Nat) : F35.X k F35.c21 (F35.q11 k) (F35.x0 k) = (F35.q12 k) := lE
theorem F35.e16 (k : Nat) : F35.X k F35.c7 (F35.q0 k) (F35.x0 k) = (F35.q12 k) := seqE (F35.e14 k) (F35.e15 k)
noncomputable def F35.p13 (k : Nat) (x1 x3 x4 : AV) (s : Store) : Rz :=
  aIf x4 (F35.p1 k s) (F35.p12 k x1 x3 s)
noncomputable abbrev F35.q13 (k : Nat) : Kz := fun fr s => F35.p13 k (fr 1) (fr 3) (fr 4) s
theorem F35.e17 (k : Nat) : F35.X k F35.c5 (F35.q0 k) (F35.x0 k) = (F35.q13 k) := condE (F35.e1 k) (F35.e16 k)
noncomputable abbrev F35.c22 : Code := cL F35.c4
noncomputable def F35.p14 (k : Nat) (x1 x3 : AV) (s : Store) : Rz :=
  aFieldAddr 0 x1 fun v1 => aLoad1 v1 s fun v2 => aCall (rn k) x3 [v2] s fun v3 s4 => aBuild [(0, 1, v3)] [AV.int .i64 0] fun c5 => (rn k 61 [(AV.int .i64 1), (AV.int .i64 64), (AV.sl s4.next 0 1 1 1)] (s4.push (.cells c5 false))).bind fun q6 => aUn .not q6.1 fun v7 => aIf v7 (F35.p13 k x1 x3 v7 q6.2) (aFieldAddr 1 x1 fun v8 => aLoad1 v8 q6.2 fun v9 => aCall (rn k) x3 [v9] q6.2 fun v10 s11 => aBuild [(0, 1, v10)] [AV.int .i64 0] fun c12 => (rn k 61 [(AV.int .i64 1), (AV.int .i64 65536), (AV.sl s11.next 0 1 1 1)] (s11.push (.cells c12 false))).bind fun q13 => aUn .not q13.1 fun v14 => aIf v14 (F35.p13 k x1 x3 v14 q13.2) (aFieldAddr 2 x1 fun v15 => aLoad1 v15 q13.2 fun v16 => aCall (rn k) x3 [v16] q13.2 fun v17 s18 => aBuild [(0, 1, v17)] [AV.int .i64 0] fun c19 => (rn k 61 [(AV.int .i64 0), (AV.int .i64 1048576), (AV.sl s18.next 0 1 1 1)] (s18.push (.cells c19 false))).bind fun q20 => aUn .not q20.1 fun v21 => F35.p13 k x1 x3 v21 q20.2))
noncomputable abbrev F35.q14 (k : Nat) : Kz := fun fr s => F35.p14 k (fr 1) (fr 3) s
theorem F35.e18 (k : Nat) : F35.X k F35.c22 (F35.q13 k) (F35.x0 k) = (F35.q14 k) := lE
theorem F35.e19 (k : Nat) : F35.X k F35.c4 (F35.q0 k) (F35.x0 k) = (F35.q14 k) := seqE (F35.e17 k) (F35.e18 k)
theorem F35.e20 (k : Nat) : F35.X k F35.c3 (F35.q0 k) xN = (F35.q14 k) := blockE (i := 0) (F35.e19 k)
theorem F35.e21 (k : Nat) : F35.X k F35.c1 (retK Tryz.prog F35.rs) xN = (F35.q14 k) := seqE (F35.e0 k) (F35.e20 k)
noncomputable abbrev F35.c23 : Code := cL F35.c0
noncomputable def F35.p15 (k : Nat) (x1 : AV) (s : Store) : Rz :=
  F35.p14 k x1 (AV.func 60 [] []) s
noncomputable abbrev F35.q15 (k : Nat) : Kz := fun fr s => F35.p15 k (fr 1) s
theorem F35.e22 (k : Nat) : F35.X k F35.c23 (F35.q14 k) xN = (F35.q15 k) := lE
theorem F35.e23 (k : Nat) : F35.X k F35.c0 (retK Tryz.prog F35.rs) xN = (F35.q15 k) := seqE (F35.e21 k) (F35.e22 k)
noncomputable abbrev F35.c24 : Code := cL F35.code
noncomputable def F35.p16 (k : Nat) (x0 : AV) (s : Store) : Rz :=
  aCells x0 fun c1 => aNew c1 s fun v2 s3 => F35.p15 k v2 s3
noncomputable abbrev F35.q16 (k : Nat) : Kz := fun fr s => F35.p16 k (fr 0) s
theorem F35.e24 (k : Nat) : F35.X k F35.c24 (F35.q15 k) xN = (F35.q16 k) := lE
theorem F35.e25 (k : Nat) : F35.X k F35.code (retK Tryz.prog F35.rs) xN = (F35.q16 k) := seqE (F35.e23 k) (F35.e24 k)
noncomputable def F35.f (k : Nat) (a0 : AV) (s : Store) : Rz := F35.p16 k a0 s
theorem F35.eq (k : Nat) (a0 : AV) (s : Store) : rn (k + 1) 35 [a0] s = F35.f k a0 s :=
  (rn_eq Tryz.func35 (by kernel_rfl) (by kernel_rfl) (by kernel_rfl) k s (by kernel_rfl)).trans (congrFun (congrFun (F35.e25 k) (frOf [a0])) s)

/-! unison/witness.Bound$1: function 36 -/
noncomputable def F36.code : Code := bodyOf Tryz.f36
noncomputable def F36.rs : List ResultVar := Tryz.f36.results.toList
noncomputable abbrev F36.X (k : Nat) (c : Code) (n : Kz) (x : Nat → Kz) : Kz := exec Tryz.prog (rn k) k 4 c ⟨n, x, retK Tryz.prog F36.rs⟩
noncomputable def F36.p0 (k : Nat) (x0 : AV) (s : Store) : Rz :=
  some (x0, s)
noncomputable abbrev F36.q0 (k : Nat) : Kz := fun fr s => F36.p0 k (fr 0) s
theorem F36.e0 (k : Nat) : F36.X k F36.code (retK Tryz.prog F36.rs) xN = (F36.q0 k) := lE
noncomputable def F36.f (k : Nat) (a0 : AV) (s : Store) : Rz := F36.p0 k a0 s
theorem F36.eq (k : Nat) (a0 : AV) (s : Store) : rn (k + 1) 36 [a0] s = F36.f k a0 s :=
  (rn_eq Tryz.func36 (by kernel_rfl) (by kernel_rfl) (by kernel_rfl) k s (by kernel_rfl)).trans (congrFun (congrFun (F36.e0 k) (frOf [a0])) s)

/-! unison/chunk.within: function 62 -/
noncomputable def F62.code : Code := bodyOf Tryz.f62
noncomputable def F62.rs : List ResultVar := Tryz.f62.results.toList
noncomputable abbrev F62.X (k : Nat) (c : Code) (n : Kz) (x : Nat → Kz) : Kz := exec Tryz.prog (rn k) k 15 c ⟨n, x, retK Tryz.prog F62.rs⟩
noncomputable def F62.p0 (k : Nat) (x0 x1 x2 : AV) (s : Store) : Rz :=
  aBin .geq x0 x1 fun v1 => (aGuard v1 true (some (x0, s)) (some (AV.tuple [], s))).bind fun g2 => (aGuard v1 true (some (x2, g2.2)) (some (AV.tuple [], g2.2))).bind fun g3 => (aGuard v1 true (aBin .leq g2.1 g3.1 fun v5 => some (v5, g3.2)) (some (AV.tuple [], g3.2))).bind fun g4 => aPick v1 g4.1 (AV.bool false) fun v6 => some (v6, g4.2)
noncomputable abbrev F62.q0 (k : Nat) : Kz := fun fr s => F62.p0 k (fr 0) (fr 1) (fr 2) s
theorem F62.e0 (k : Nat) : F62.X k F62.code (retK Tryz.prog F62.rs) xN = (F62.q0 k) := lE
noncomputable def F62.f (k : Nat) (a0 a1 a2 : AV) (s : Store) : Rz := F62.p0 k a0 a1 a2 s
theorem F62.eq (k : Nat) (a0 a1 a2 : AV) (s : Store) : rn (k + 1) 62 [a0, a1, a2] s = F62.f k a0 a1 a2 s :=
  (rn_eq Tryz.func62 (by kernel_rfl) (by kernel_rfl) (by kernel_rfl) k s (by kernel_rfl)).trans (congrFun (congrFun (F62.e0 k) (frOf [a0, a1, a2])) s)

/-! unison/chunk.Count: function 37 -/
noncomputable def F37.code : Code := bodyOf Tryz.f37
noncomputable def F37.rs : List ResultVar := Tryz.f37.results.toList
noncomputable abbrev F37.X (k : Nat) (c : Code) (n : Kz) (x : Nat → Kz) : Kz := exec Tryz.prog (rn k) k 20 c ⟨n, x, retK Tryz.prog F37.rs⟩
noncomputable def F37.p0 (k : Nat) (x0 x1 : AV) (s : Store) : Rz :=
  (rn k 62 [x0, (AV.int .i64 0), (AV.int .i64 1048576)] s).bind fun q1 => aUn .not q1.1 fun v2 => (aGuard v2 false (some (x1, q1.2)) (some (AV.tuple [], q1.2))).bind fun g3 => (aGuard v2 false ((rn k 62 [g3.1, (AV.int .i64 1), (AV.int .i64 65536)] g3.2).bind fun q5 => some (q5.1, q5.2)) (some (AV.tuple [], g3.2))).bind fun g4 => (aGuard v2 false (aUn .not g4.1 fun v7 => some (v7, g4.2)) (some (AV.tuple [], g4.2))).bind fun g6 => aPick v2 (AV.bool true) g6.1 fun v8 => aIf v8 (some ((AV.int .i64 0), g6.2)) (aBin .add x0 x1 fun v9 => aBin .sub v9 (AV.int .i64 1) fun v10 => aBin .quo v10 x1 fun v11 => aMaxL (AV.int .i64 1) [v11] fun v12 => some (v12, g6.2))
noncomputable abbrev F37.q0 (k : Nat) : Kz := fun fr s => F37.p0 k (fr 0) (fr 1) s
theorem F37.e0 (k : Nat) : F37.X k F37.code (retK Tryz.prog F37.rs) xN = (F37.q0 k) := lE
noncomputable def F37.f (k : Nat) (a0 a1 : AV) (s : Store) : Rz := F37.p0 k a0 a1 s
theorem F37.eq (k : Nat) (a0 a1 : AV) (s : Store) : rn (k + 1) 37 [a0, a1] s = F37.f k a0 a1 s :=
  (rn_eq Tryz.func37 (by kernel_rfl) (by kernel_rfl) (by kernel_rfl) k s (by kernel_rfl)).trans (congrFun (congrFun (F37.e0 k) (frOf [a0, a1])) s)

/-! unison/witness.Bound: function 15 -/
noncomputable def F15.code : Code := bodyOf Tryz.f15
noncomputable def F15.rs : List ResultVar := Tryz.f15.results.toList
noncomputable abbrev F15.X (k : Nat) (c : Code) (n : Kz) (x : Nat → Kz) : Kz := exec Tryz.prog (rn k) k 83 c ⟨n, x, retK Tryz.prog F15.rs⟩
noncomputable abbrev F15.c0 : Code := cR F15.code
noncomputable abbrev F15.c1 : Code := cR F15.c0
noncomputable abbrev F15.c2 : Code := cR F15.c1
noncomputable abbrev F15.c3 : Code := cR F15.c2
noncomputable abbrev F15.c4 : Code := cR F15.c3
noncomputable abbrev F15.c5 : Code := cR F15.c4
noncomputable abbrev F15.c6 : Code := cR F15.c5
noncomputable abbrev F15.c7 : Code := cR F15.c6
noncomputable def F15.p0 (k : Nat) (x6 x7 x8 : AV) (s : Store) : Rz :=
  aBin .add x6 x7 fun v1 => aBin .add v1 x8 fun v2 => aBin .add v2 (AV.int .i64 16) fun v3 => some (v3, s)
noncomputable abbrev F15.q0 (k : Nat) : Kz := fun fr s => F15.p0 k (fr 6) (fr 7) (fr 8) s
theorem F15.e0 (k : Nat) : F15.X k F15.c7 (retK Tryz.prog F15.rs) xN = (F15.q0 k) := lE
noncomputable abbrev F15.c8 : Code := cL F15.c6
noncomputable def F15.p1 (k : Nat) (x1 x3 x4 x6 x7 : AV) (s : Store) : Rz :=
  (some (x4, s)).bind fun q1 => (some (x3, q1.2)).bind fun q2 => (aFieldAddr 0 x1 fun v4 => some (v4, q2.2)).bind fun q3 => (aLoad1 q3.1 q3.2 fun v6 => some (v6, q3.2)).bind fun q5 => (aCall (rn k) q2.1 [q5.1] q5.2 fun v8 s9 => some (v8, s9)).bind fun q7 => (aBin .mul (AV.int .i64 8) q7.1 fun v11 => some (v11, q7.2)).bind fun q10 => (aFieldAddr 12 x1 fun v13 => some (v13, q10.2)).bind fun q12 => (aLoad1 q12.1 q12.2 fun v15 => some (v15, q12.2)).bind fun q14 => (aLoad1 q12.1 q5.2 fun v16 => some (v16, q5.2)).bind fun z17 => aSame z17.1 q14.1 <| (aBin .mul (AV.int .i64 4) q14.1 fun v19 => some (v19, q14.2)).bind fun q18 => (aBin .add q10.1 q18.1 fun v21 => some (v21, q18.2)).bind fun q20 => (aBin .add q20.1 (AV.int .i64 42) fun v23 => some (v23, q20.2)).bind fun q22 => (aBin .mul q1.1 q22.1 fun v25 => some (v25, q22.2)).bind fun q24 => (some (q24.1, q24.2)).bind fun q26 => F15.p0 k x6 x7 q26.1 q26.2
noncomputable abbrev F15.q1 (k : Nat) : Kz := fun fr s => F15.p1 k (fr 1) (fr 3) (fr 4) (fr 6) (fr 7) s
theorem F15.e1 (k : Nat) : F15.X k F15.c8 (F15.q0 k) xN = (F15.q1 k) := drawE [0, 0, 0, 4, 14, 30, 0, 64, 192, 510, 1022, 2047, 4095]
theorem F15.e2 (k : Nat) : F15.X k F15.c6 (retK Tryz.prog F15.rs) xN = (F15.q1 k) := seqE (F15.e0 k) (F15.e1 k)
noncomputable abbrev F15.c9 : Code := cL F15.c5
noncomputable def F15.p2 (k : Nat) (x1 x3 x4 x5 x6 : AV) (s : Store) : Rz :=
  aBin .mul x4 (AV.int .i64 2) fun v1 => aBin .add x5 (AV.int .i64 2) fun v2 => aBin .mul v1 v2 fun v3 => aFieldAddr 12 x1 fun v4 => aLoad1 v4 s fun v5 => aBin .add v5 (AV.int .i64 4) fun v6 => aBin .mul v3 v6 fun v7 => aFieldAddr 12 x1 fun v8 => aLoad1 v8 s fun v9 => aBin .add v7 v9 fun v10 => aBin .add v10 (AV.int .i64 4) fun v11 => F15.p1 k x1 x3 x4 x6 v11 s
noncomputable abbrev F15.q2 (k : Nat) : Kz := fun fr s => F15.p2 k (fr 1) (fr 3) (fr 4) (fr 5) (fr 6) s
theorem F15.e3 (k : Nat) : F15.X k F15.c9 (F15.q1 k) xN = (F15.q2 k) := lE
theorem F15.e4 (k : Nat) : F15.X k F15.c5 (retK Tryz.prog F15.rs) xN = (F15.q2 k) := seqE (F15.e2 k) (F15.e3 k)
noncomputable abbrev F15.c10 : Code := cL F15.c4
noncomputable def F15.p3 (k : Nat) (x1 x3 x4 x5 : AV) (s : Store) : Rz :=
  aFieldAddr 15 x1 fun v1 => aLoad1 v1 s fun v2 => aFieldAddr 11 x1 fun v3 => aLoad1 v3 s fun v4 => aBin .add v2 v4 fun v5 => aBin .add v5 (AV.int .i64 4) fun v6 => F15.p2 k x1 x3 x4 x5 v6 s
noncomputable abbrev F15.q3 (k : Nat) : Kz := fun fr s => F15.p3 k (fr 1) (fr 3) (fr 4) (fr 5) s
theorem F15.e5 (k : Nat) : F15.X k F15.c10 (F15.q2 k) xN = (F15.q3 k) := lE
theorem F15.e6 (k : Nat) : F15.X k F15.c4 (retK Tryz.prog F15.rs) xN = (F15.q3 k) := seqE (F15.e4 k) (F15.e5 k)
noncomputable abbrev F15.c11 : Code := cL F15.c3
noncomputable def F15.p4 (k : Nat) (x1 x3 x4 : AV) (s : Store) : Rz :=
  (some (x3, s)).bind fun q1 => (aFieldAddr 2 x1 fun v3 => some (v3, q1.2)).bind fun q2 => (aLoad1 q2.1 q2.2 fun v5 => some (v5, q2.2)).bind fun q4 => (aFieldAddr 1 x1 fun v7 => some (v7, q4.2)).bind fun q6 => (aLoad1 q6.1 q6.2 fun v9 => some (v9, q6.2)).bind fun q8 => ((rn k 37 [q4.1, q8.1] q8.2).bind fun q11 => some (q11.1, q11.2)).bind fun q10 => (aCall (rn k) q1.1 [q10.1] q10.2 fun v13 s14 => some (v13, s14)).bind fun q12 => (some (x3, q12.2)).bind fun q15 => (aFieldAddr 8 x1 fun v17 => some (v17, q15.2)).bind fun q16 => (aLoad1 q16.1 q16.2 fun v19 => some (v19, q16.2)).bind fun q18 => (aLoad1 q16.1 q10.2 fun v20 => some (v20, q10.2)).bind fun z22 => aSame z22.1 q18.1 <| (aLoad1 q16.1 q8.2 fun v21 => some (v21, q8.2)).bind fun z23 => aSame z23.1 q18.1 <| (aCall (rn k) q15.1 [q18.1] q18.2 fun v25 s26 => some (v25, s26)).bind fun q24 => (aBin .add q12.1 q24.1 fun v28 => some (v28, q24.2)).bind fun q27 => (aBin .sub q27.1 (AV.int .i64 1) fun v30 => some (v30, q27.2)).bind fun q29 => (some (x3, q29.2)).bind fun q31 => (aFieldAddr 8 x1 fun v33 => some (v33, q31.2)).bind fun q32 => (aLoad1 q32.1 q32.2 fun v35 => some (v35, q32.2)).bind fun q34 => (aLoad1 q32.1 q18.2 fun v36 => some (v36, q18.2)).bind fun z39 => aSame z39.1 q34.1 <| (aLoad1 q32.1 q10.2 fun v37 => some (v37, q10.2)).bind fun z40 => aSame z40.1 q34.1 <| (aLoad1 q32.1 q8.2 fun v38 => some (v38, q8.2)).bind fun z41 => aSame z41.1 q34.1 <| (aCall (rn k) q31.1 [q34.1] q34.2 fun v43 s44 => some (v43, s44)).bind fun q42 => (aBin .quo q29.1 q42.1 fun v46 => some (v46, q42.2)).bind fun q45 => (some (q45.1, q45.2)).bind fun q47 => F15.p3 k x1 x3 x4 q47.1 q47.2
noncomputable abbrev F15.q4 (k : Nat) : Kz := fun fr s => F15.p4 k (fr 1) (fr 3) (fr 4) s
theorem F15.e7 (k : Nat) : F15.X k F15.c11 (F15.q3 k) xN = (F15.q4 k) := drawE [0, 0, 2, 0, 8, 30, 63, 0, 0, 256, 1023, 2047, 4095, 0, 0, 16384, 59391, 131071, 262143]
theorem F15.e8 (k : Nat) : F15.X k F15.c3 (retK Tryz.prog F15.rs) xN = (F15.q4 k) := seqE (F15.e6 k) (F15.e7 k)
noncomputable abbrev F15.c12 : Code := cL F15.c2
noncomputable def F15.p5 (k : Nat) (x1 x3 : AV) (s : Store) : Rz :=
  (some (x3, s)).bind fun q1 => (aFieldAddr 0 x1 fun v3 => some (v3, q1.2)).bind fun q2 => (aLoad1 q2.1 q2.2 fun v5 => some (v5, q2.2)).bind fun q4 => (aCall (rn k) q1.1 [q4.1] q4.2 fun v7 s8 => some (v7, s8)).bind fun q6 => (some (x3, q6.2)).bind fun q9 => (aFieldAddr 3 x1 fun v11 => some (v11, q9.2)).bind fun q10 => (aLoad1 q10.1 q10.2 fun v13 => some (v13, q10.2)).bind fun q12 => (aLoad1 q10.1 q4.2 fun v14 => some (v14, q4.2)).bind fun z15 => aSame z15.1 q12.1 <| (aCall (rn k) q9.1 [q12.1] q12.2 fun v17 s18 => some (v17, s18)).bind fun q16 => (aBin .mul q6.1 q16.1 fun v20 => some (v20, q16.2)).bind fun q19 => (some (q19.1, q19.2)).bind fun q21 => F15.p4 k x1 x3 q21.1 q21.2
noncomputable abbrev F15.q5 (k : Nat) : Kz := fun fr s => F15.p5 k (fr 1) (fr 3) s
theorem F15.e9 (k : Nat) : F15.X k F15.c12 (F15.q4 k) xN = (F15.q5 k) := drawE [0, 0, 2, 7, 0, 0, 32, 127, 255, 511]
theorem F15.e10 (k : Nat) : F15.X k F15.c2 (retK Tryz.prog F15.rs) xN = (F15.q5 k) := seqE (F15.e8 k) (F15.e9 k)
noncomputable abbrev F15.c13 : Code := cL F15.c1
noncomputable def F15.p6 (k : Nat) (x1 : AV) (s : Store) : Rz :=
  F15.p5 k x1 (AV.func 36 [] []) s
noncomputable abbrev F15.q6 (k : Nat) : Kz := fun fr s => F15.p6 k (fr 1) s
theorem F15.e11 (k : Nat) : F15.X k F15.c13 (F15.q5 k) xN = (F15.q6 k) := lE
theorem F15.e12 (k : Nat) : F15.X k F15.c1 (retK Tryz.prog F15.rs) xN = (F15.q6 k) := seqE (F15.e10 k) (F15.e11 k)
noncomputable abbrev F15.c14 : Code := cL F15.c0
noncomputable def F15.p7 (k : Nat) (x1 : AV) (s : Store) : Rz :=
  aLoadN 16 x1 s fun v1 => (rn k 35 [v1] s).bind fun q2 => aUn .not q2.1 fun v3 => (aGuard v3 false (aFieldAddr 13 x1 fun v5 => some (v5, q2.2)) (some (AV.tuple [], q2.2))).bind fun g4 => (aGuard v3 false (aLoad1 g4.1 g4.2 fun v7 => some (v7, g4.2)) (some (AV.tuple [], g4.2))).bind fun g6 => (aGuard v3 false (aFieldAddr 11 x1 fun v9 => some (v9, g6.2)) (some (AV.tuple [], g6.2))).bind fun g8 => (aGuard v3 false (aLoad1 g8.1 g8.2 fun v11 => some (v11, g8.2)) (some (AV.tuple [], g8.2))).bind fun g10 => (aGuard v3 false (aBin .lss g6.1 g10.1 fun v13 => some (v13, g10.2)) (some (AV.tuple [], g10.2))).bind fun g12 => aPick v3 (AV.bool true) g12.1 fun v14 => aIf v14 (some ((AV.int .i64 0), g12.2)) (F15.p6 k x1 g12.2)
noncomputable abbrev F15.q7 (k : Nat) : Kz := fun fr s => F15.p7 k (fr 1) s
theorem F15.e13 (k : Nat) : F15.X k F15.c14 (F15.q6 k) xN = (F15.q7 k) := lE
theorem F15.e14 (k : Nat) : F15.X k F15.c0 (retK Tryz.prog F15.rs) xN = (F15.q7 k) := seqE (F15.e12 k) (F15.e13 k)
noncomputable abbrev F15.c15 : Code := cL F15.code
noncomputable def F15.p8 (k : Nat) (x0 : AV) (s : Store) : Rz :=
  aCells x0 fun c1 => aNew c1 s fun v2 s3 => F15.p7 k v2 s3
noncomputable abbrev F15.q8 (k : Nat) : Kz := fun fr s => F15.p8 k (fr 0) s
theorem F15.e15 (k : Nat) : F15.X k F15.c15 (F15.q7 k) xN = (F15.q8 k) := lE
theorem F15.e16 (k : Nat) : F15.X k F15.code (retK Tryz.prog F15.rs) xN = (F15.q8 k) := seqE (F15.e14 k) (F15.e15 k)
noncomputable def F15.f (k : Nat) (a0 : AV) (s : Store) : Rz := F15.p8 k a0 s
theorem F15.eq (k : Nat) (a0 : AV) (s : Store) : rn (k + 1) 15 [a0] s = F15.f k a0 s :=
  (rn_eq Tryz.func15 (by kernel_rfl) (by kernel_rfl) (by kernel_rfl) k s (by kernel_rfl)).trans (congrFun (congrFun (F15.e16 k) (frOf [a0])) s)

/-! unison/unisonref24.in: function 39 -/
noncomputable def F39.code : Code := bodyOf Tryz.f39
noncomputable def F39.rs : List ResultVar := Tryz.f39.results.toList
noncomputable abbrev F39.X (k : Nat) (c : Code) (n : Kz) (x : Nat → Kz) : Kz := exec Tryz.prog (rn k) k 15 c ⟨n, x, retK Tryz.prog F39.rs⟩
noncomputable def F39.p0 (k : Nat) (x0 x1 x2 : AV) (s : Store) : Rz :=
  aBin .geq x0 x1 fun v1 => (aGuard v1 true (some (x0, s)) (some (AV.tuple [], s))).bind fun g2 => (aGuard v1 true (some (x2, g2.2)) (some (AV.tuple [], g2.2))).bind fun g3 => (aGuard v1 true (aBin .leq g2.1 g3.1 fun v5 => some (v5, g3.2)) (some (AV.tuple [], g3.2))).bind fun g4 => aPick v1 g4.1 (AV.bool false) fun v6 => some (v6, g4.2)
noncomputable abbrev F39.q0 (k : Nat) : Kz := fun fr s => F39.p0 k (fr 0) (fr 1) (fr 2) s
theorem F39.e0 (k : Nat) : F39.X k F39.code (retK Tryz.prog F39.rs) xN = (F39.q0 k) := lE
noncomputable def F39.f (k : Nat) (a0 a1 a2 : AV) (s : Store) : Rz := F39.p0 k a0 a1 a2 s
theorem F39.eq (k : Nat) (a0 a1 a2 : AV) (s : Store) : rn (k + 1) 39 [a0, a1, a2] s = F39.f k a0 a1 a2 s :=
  (rn_eq Tryz.func39 (by kernel_rfl) (by kernel_rfl) (by kernel_rfl) k s (by kernel_rfl)).trans (congrFun (congrFun (F39.e0 k) (frOf [a0, a1, a2])) s)

/-! unison/unisonref24.long: function 40 -/
noncomputable def F40.code : Code := bodyOf Tryz.f40
noncomputable def F40.rs : List ResultVar := Tryz.f40.results.toList
noncomputable abbrev F40.X (k : Nat) (c : Code) (n : Kz) (x : Nat → Kz) : Kz := exec Tryz.prog (rn k) k 15 c ⟨n, x, retK Tryz.prog F40.rs⟩
noncomputable def F40.p0 (k : Nat) (x0 x1 x2 : AV) (s : Store) : Rz :=
  aBin .geq x0 x1 fun v1 => (aGuard v1 true (some (x0, s)) (some (AV.tuple [], s))).bind fun g2 => (aGuard v1 true (some (x2, g2.2)) (some (AV.tuple [], g2.2))).bind fun g3 => (aGuard v1 true (aBin .leq g2.1 g3.1 fun v5 => some (v5, g3.2)) (some (AV.tuple [], g3.2))).bind fun g4 => aPick v1 g4.1 (AV.bool false) fun v6 => some (v6, g4.2)
noncomputable abbrev F40.q0 (k : Nat) : Kz := fun fr s => F40.p0 k (fr 0) (fr 1) (fr 2) s
theorem F40.e0 (k : Nat) : F40.X k F40.code (retK Tryz.prog F40.rs) xN = (F40.q0 k) := lE
noncomputable def F40.f (k : Nat) (a0 a1 a2 : AV) (s : Store) : Rz := F40.p0 k a0 a1 a2 s
theorem F40.eq (k : Nat) (a0 a1 a2 : AV) (s : Store) : rn (k + 1) 40 [a0, a1, a2] s = F40.f k a0 a1 a2 s :=
  (rn_eq Tryz.func40 (by kernel_rfl) (by kernel_rfl) (by kernel_rfl) k s (by kernel_rfl)).trans (congrFun (congrFun (F40.e0 k) (frOf [a0, a1, a2])) s)

/-! unison/unisonref24.May: function 17 -/
noncomputable def F17.code : Code := bodyOf Tryz.f17
noncomputable def F17.rs : List ResultVar := Tryz.f17.results.toList
noncomputable abbrev F17.X (k : Nat) (c : Code) (n : Kz) (x : Nat → Kz) : Kz := exec Tryz.prog (rn k) k 99 c ⟨n, x, retK Tryz.prog F17.rs⟩
noncomputable def F17.p0 (k : Nat) (x0 : AV) (s : Store) : Rz :=
  aCells x0 fun c1 => aNew c1 s fun v2 s3 => aFieldAddr 0 v2 fun v4 => aLoad1 v4 s3 fun v5 => (rn k 39 [v5, (AV.int .i64 1), (AV.int .i64 64)] s3).bind fun q6 => aUn .not q6.1 fun v7 => (aGuard v7 false (aFieldAddr 1 v2 fun v9 => some (v9, q6.2)) (some (AV.tuple [], q6.2))).bind fun g8 => (aGuard v7 false (aLoad1 g8.1 g8.2 fun v11 => some (v11, g8.2)) (some (AV.tuple [], g8.2))).bind fun g10 => (aGuard v7 false ((rn k 39 [g10.1, (AV.int .i64 1), (AV.int .i64 65536)] g10.2).bind fun q13 => some (q13.1, q13.2)) (some (AV.tuple [], g10.2))).bind fun g12 => (aGuard v7 false (aUn .not g12.1 fun v15 => some (v15, g12.2)) (some (AV.tuple [], g12.2))).bind fun g14 => aPick v7 (AV.bool true) g14.1 fun v16 => (aGuard v16 false (aFieldAddr 2 v2 fun v18 => some (v18, g14.2)) (some (AV.tuple [], g14.2))).bind fun g17 => (aGuard v16 false (aLoad1 g17.1 g17.2 fun v20 => some (v20, g17.2)) (some (AV.tuple [], g17.2))).bind fun g19 => (aGuard v16 false ((rn k 39 [g19.1, (AV.int .i64 0), (AV.int .i64 1048576)] g19.2).bind fun q22 => some (q22.1, q22.2)) (some (AV.tuple [], g19.2))).bind fun g21 => (aGuard v16 false (aUn .not g21.1 fun v24 => some (v24, g21.2)) (some (AV.tuple [], g21.2))).bind fun g23 => aPick v16 (AV.bool true) g23.1 fun v25 => (aGuard v25 false (aFieldAddr 3 v2 fun v27 => some (v27, g23.2)) (some (AV.tuple [], g23.2))).bind fun g26 => (aGuard v25 false (aLoad1 g26.1 g26.2 fun v29 => some (v29, g26.2)) (some (AV.tuple [], g26.2))).bind fun g28 => (aGuard v25 false ((rn k 39 [g28.1, (AV.int .i64 1), (AV.int .i64 64)] g28.2).bind fun q31 => some (q31.1, q31.2)) (some (AV.tuple [], g28.2))).bind fun g30 => (aGuard v25 false (aUn .not g30.1 fun v33 => some (v33, g30.2)) (some (AV.tuple [], g30.2))).bind fun g32 => aPick v25 (AV.bool true) g32.1 fun v34 => (aGuard v34 false (aFieldAddr 4 v2 fun v36 => some (v36, g32.2)) (some (AV.tuple [], g32.2))).bind fun g35 => (aGuard v34 false (aLoad1 g35.1 g35.2 fun v38 => some (v38, g35.2)) (some (AV.tuple [], g35.2))).bind fun g37 => (aGuard v34 false ((rn k 39 [g37.1, (AV.int .i64 1), (AV.int .i64 64)] g37.2).bind fun q40 => some (q40.1, q40.2)) (some (AV.tuple [], g37.2))).bind fun g39 => (aGuard v34 false (aUn .not g39.1 fun v42 => some (v42, g39.2)) (some (AV.tuple [], g39.2))).bind fun g41 => aPick v34 (AV.bool true) g41.1 fun v43 => (aGuard v43 false (aFieldAddr 5 v2 fun v45 => some (v45, g41.2)) (some (AV.tuple [], g41.2))).bind fun g44 => (aGuard v43 false (aLoad1 g44.1 g44.2 fun v47 => some (v47, g44.2)) (some (AV.tuple [], g44.2))).bind fun g46 => (aGuard v43 false ((rn k 39 [g46.1, (AV.int .i64 1), (AV.int .i64 4096)] g46.2).bind fun q49 => some (q49.1, q49.2)) (some (AV.tuple [], g46.2))).bind fun g48 => (aGuard v43 false (aUn .not g48.1 fun v51 => some (v51, g48.2)) (some (AV.tuple [], g48.2))).bind fun g50 => aPick v43 (AV.bool true) g50.1 fun v52 => aIf v52 (some ((AV.bool false), g50.2)) (aFieldAddr 6 v2 fun v53 => aLoad1 v53 g50.2 fun v54 => (rn k 39 [v54, (AV.int .i64 1), (AV.int .i64 4096)] g50.2).bind fun q55 => aUn .not q55.1 fun v56 => (aGuard v56 false (aFieldAddr 7 v2 fun v58 => some (v58, q55.2)) (some (AV.tuple [], q55.2))).bind fun g57 => (aGuard v56 false (aLoad1 g57.1 g57.2 fun v60 => some (v60, g57.2)) (some (AV.tuple [], g57.2))).bind fun g59 => (aGuard v56 false ((rn k 39 [g59.1, (AV.int .i64 1), (AV.int .i64 8)] g59.2).bind fun q62 => some (q62.1, q62.2)) (some (AV.tuple [], g59.2))).bind fun g61 => (aGuard v56 false (aUn .not g61.1 fun v64 => some (v64, g61.2)) (some (AV.tuple [], g61.2))).bind fun g63 => aPick v56 (AV.bool true) g63.1 fun v65 => (aGuard v65 false (aFieldAddr 8 v2 fun v67 => some (v67, g63.2)) (some (AV.tuple [], g63.2))).bind fun g66 => (aGuard v65 false (aLoad1 g66.1 g66.2 fun v69 => some (v69, g66.2)) (some (AV.tuple [], g66.2))).bind fun g68 => (aGuard v65 false ((rn k 39 [g68.1, (AV.int .i64 1), (AV.int .i64 64)] g68.2).bind fun q71 => some (q71.1, q71.2)) (some (AV.tuple [], g68.2))).bind fun g70 => (aGuard v65 false (aUn .not g70.1 fun v73 => some (v73, g70.2)) (some (AV.tuple [], g70.2))).bind fun g72 => aPick v65 (AV.bool true) g72.1 fun v74 => (aGuard v74 false (aFieldAddr 9 v2 fun v76 => some (v76, g72.2)) (some (AV.tuple [], g72.2))).bind fun g75 => (aGuard v74 false (aLoad1 g75.1 g75.2 fun v78 => some (v78, g75.2)) (some (AV.tuple [], g75.2))).bind fun g77 => (aGuard v74 false (aFieldAddr 2 v2 fun v80 => some (v80, g77.2)) (some (AV.tuple [], g77.2))).bind fun g79 => (aGuard v74 false (aLoad1 g79.1 g79.2 fun v82 => some (v82, g79.2)) (some (AV.tuple [], g79.2))).bind fun g81 => (aGuard v74 false ((rn k 39 [g77.1, g81.1, (AV.int .i64 1073741824)] g81.2).bind fun q84 => some (q84.1, q84.2)) (some (AV.tuple [], g81.2))).bind fun g83 => (aGuard v74 false (aUn .not g83.1 fun v86 => some (v86, g83.2)) (some (AV.tuple [], g83.2))).bind fun g85 => aPick v74 (AV.bool true) g85.1 fun v87 => (aGuard v87 false (aFieldAddr 10 v2 fun v89 => some (v89, g85.2)) (some (AV.tuple [], g85.2))).bind fun g88 => (aGuard v87 false (aLoad1 g88.1 g88.2 fun v91 => some (v91, g88.2)) (some (AV.tuple [], g88.2))).bind fun g90 => (aGuard v87 false (aFieldAddr 4 v2 fun v93 => some (v93, g90.2)) (some (AV.tuple [], g90.2))).bind fun g92 => (aGuard v87 false (aLoad1 g92.1 g92.2 fun v95 => some (v95, g92.2)) (some (AV.tuple [], g92.2))).bind fun g94 => (aGuard v87 false (aFieldAddr 8 v2 fun v97 => some (v97, g94.2)) (some (AV.tuple [], g94.2))).bind fun g96 => (aGuard v87 false (aLoad1 g96.1 g96.2 fun v99 => some (v99, g96.2)) (some (AV.tuple [], g96.2))).bind fun g98 => (aGuard v87 false (aBin .add g94.1 g98.1 fun v101 => some (v101, g98.2)) (some (AV.tuple [], g98.2))).bind fun g100 => (aGuard v87 false (aBin .add g100.1 (AV.int .i64 8) fun v103 => some (v103, g100.2)) (some (AV.tuple [], g100.2))).bind fun g102 => (aGuard v87 false ((rn k 39 [g90.1, g102.1, (AV.int .i64 4096)] g102.2).bind fun q105 => some (q105.1, q105.2)) (some (AV.tuple [], g102.2))).bind fun g104 => (aGuard v87 false (aUn .not g104.1 fun v107 => some (v107, g104.2)) (some (AV.tuple [], g104.2))).bind fun g106 => aPick v87 (AV.bool true) g106.1 fun v108 => aIf v108 (some ((AV.bool false), g106.2)) (aFieldAddr 11 v2 fun v109 => aLoad1 v109 g106.2 fun v110 => (rn k 40 [v110, (AV.int .i64 1), (AV.int .i64 1048576)] g106.2).bind fun q111 => aUn .not q111.1 fun v112 => (aGuard v112 false (aFieldAddr 12 v2 fun v114 => some (v114, q111.2)) (some (AV.tuple [], q111.2))).bind fun g113 => (aGuard v112 false (aLoad1 g113.1 g113.2 fun v116 => some (v116, g113.2)) (some (AV.tuple [], g113.2))).bind fun g115 => (aGuard v112 false ((rn k 40 [g115.1, (AV.int .i64 1), (AV.int .i64 1048576)] g115.2).bind fun q118 => some (q118.1, q118.2)) (some (AV.tuple [], g115.2))).bind fun g117 => (aGuard v112 false (aUn .not g117.1 fun v120 => some (v120, g117.2)) (some (AV.tuple [], g117.2))).bind fun g119 => aPick v112 (AV.bool true) g119.1 fun v121 => (aGuard v121 false (aFieldAddr 13 v2 fun v123 => some (v123, g119.2)) (some (AV.tuple [], g119.2))).bind fun g122 => (aGuard v121 false (aLoad1 g122.1 g122.2 fun v125 => some (v125, g122.2)) (some (AV.tuple [], g122.2))).bind fun g124 => (aGuard v121 false ((rn k 40 [g124.1, (AV.int .i64 1), (AV.int .i64 1099511627776)] g124.2).bind fun q127 => some (q127.1, q127.2)) (some (AV.tuple [], g124.2))).bind fun g126 => (aGuard v121 false (aUn .not g126.1 fun v129 => some (v129, g126.2)) (some (AV.tuple [], g126.2))).bind fun g128 => aPick v121 (AV.bool true) g128.1 fun v130 => aIf v130 (some ((AV.bool false), g128.2)) (aFieldAddr 14 v2 fun v131 => aLoad1 v131 g128.2 fun v132 => (rn k 40 [v132, (AV.int .i64 0), (AV.int .i64 1099511627776)] g128.2).bind fun q133 => (aGuard q133.1 true (aFieldAddr 15 v2 fun v135 => some (v135, q133.2)) (some (AV.tuple [], q133.2))).bind fun g134 => (aGuard q133.1 true (aLoad1 g134.1 g134.2 fun v137 => some (v137, g134.2)) (some (AV.tuple [], g134.2))).bind fun g136 => (aGuard q133.1 true (aFieldAddr 13 v2 fun v139 => some (v139, g136.2)) (some (AV.tuple [], g136.2))).bind fun g138 => (aGuard q133.1 true (aLoad1 g138.1 g138.2 fun v141 => some (v141, g138.2)) (some (AV.tuple [], g138.2))).bind fun g140 => (aGuard q133.1 true ((rn k 40 [g136.1, g140.1, (AV.int .i64 1099511627776)] g140.2).bind fun q143 => some (q143.1, q143.2)) (some (AV.tuple [], g140.2))).bind fun g142 => aPick q133.1 g142.1 (AV.bool false) fun v144 => some (v144, g142.2))))
noncomputable abbrev F17.q0 (k : Nat) : Kz := fun fr s => F17.p0 k (fr 0) s
theorem F17.e0 (k : Nat) : F17.X k F17.code (retK Tryz.prog F17.rs) xN = (F17.q0 k) := lE
noncomputable def F17.f (k : Nat) (a0 : AV) (s : Store) : Rz := F17.p0 k a0 s
theorem F17.eq (k : Nat) (a0 : AV) (s : Store) : rn (k + 1) 17 [a0] s = F17.f k a0 s :=
  (rn_eq Tryz.func17 (by kernel_rfl) (by kernel_rfl) (by kernel_rfl) k s (by kernel_rfl)).trans (congrFun (congrFun (F17.e0 k) (frOf [a0])) s)

/-! unison/unisonref12.Count: function 38 -/
noncomputable def F38.code : Code := bodyOf Tryz.f38
noncomputable def F38.rs : List ResultVar := Tryz.f38.results.toList
noncomputable abbrev F38.X (k : Nat) (c : Code) (n : Kz) (x : Nat → Kz) : Kz := exec Tryz.prog (rn k) k 29 c ⟨n, x, retK Tryz.prog F38.rs⟩
noncomputable abbrev F38.c0 : Code := cR F38.code
noncomputable abbrev F38.c1 : Code := cR F38.c0
noncomputable abbrev F38.c2 : Code := cR F38.c1
noncomputable abbrev F38.c3 : Code := cR F38.c2
noncomputable def F38.p0 (k : Nat) (x5 : AV) (s : Store) : Rz :=
  some (x5, s)
noncomputable abbrev F38.q0 (k : Nat) : Kz := fun fr s => F38.p0 k (fr 5) s
theorem F38.e0 (k : Nat) : F38.X k F38.c3 (retK Tryz.prog F38.rs) xN = (F38.q0 k) := lE
noncomputable abbrev F38.c4 : Code := cL F38.c2
noncomputable abbrev F38.x0 (k : Nat) : Nat → Kz := xB 0 (F38.q0 k) xN
noncomputable abbrev F38.c5 : Code := cB F38.c4
noncomputable abbrev F38.c6 : Code := cB F38.c5
noncomputable abbrev F38.c7 : Code := cR F38.c6
noncomputable abbrev F38.x1 (k : Nat) (R0 : Ar3) : Nat → Kz := xB 1 (fun fr s => R0 (fr 0) (fr 1) (fr 5) s) (F38.x0 k)
noncomputable abbrev F38.c8 : Code := cB F38.c7
noncomputable def F38.p1 (k : Nat) (R0 : Ar3) (x0 x1 x5 : AV) (s : Store) : Rz :=
  aBin .sub x0 x1 fun v1 => aBin .add x5 (AV.int .i64 1) fun v2 => R0 v1 x1 v2 s
noncomputable abbrev F38.q1 (k : Nat) (R0 : Ar3) : Kz := fun fr s => F38.p1 k R0 (fr 0) (fr 1) (fr 5) s
theorem F38.e1 (k : Nat) (R0 : Ar3) : F38.X k F38.c8 (fun fr s => R0 (fr 0) (fr 1) (fr 5) s) (F38.x1 k R0) = (F38.q1 k R0) := lE
theorem F38.e2 (k : Nat) (R0 : Ar3) : F38.X k F38.c7 (fun fr s => R0 (fr 0) (fr 1) (fr 5) s) (F38.x0 k) = (F38.q1 k R0) := blockE (i := 1) (F38.e1 k R0)
noncomputable abbrev F38.c9 : Code := cL F38.c6
noncomputable def F38.p2 (k : Nat) (R0 : Ar3) (x0 x1 x5 : AV) (s : Store) : Rz :=
  aBin .gtr x0 x1 fun v1 => aIf v1 (F38.p1 k R0 x0 x1 x5 s) (F38.p0 k x5 s)
noncomputable abbrev F38.q2 (k : Nat) (R0 : Ar3) : Kz := fun fr s => F38.p2 k R0 (fr 0) (fr 1) (fr 5) s
theorem F38.e3 (k : Nat) (R0 : Ar3) : F38.X k F38.c9 (F38.q1 k R0) (F38.x0 k) = (F38.q2 k R0) := lE
theorem F38.e4 (k : Nat) (R0 : Ar3) : F38.X k F38.c6 (fun fr s => R0 (fr 0) (fr 1) (fr 5) s) (F38.x0 k) = (F38.q2 k R0) := seqE (F38.e2 k R0) (F38.e3 k R0)
noncomputable def F38.l0 (k : Nat) : Nat → Ar3 := iterF (fun _ _ _ _ => none) (fun R0 x0 x1 x5 s => F38.p2 k R0 x0 x1 x5 s)
theorem F38.e5 (k : Nat) : F38.X k F38.c5 (F38.q0 k) (F38.x0 k) = (fun fr s => F38.l0 k k (fr 0) (fr 1) (fr 5) s) := loopE (fun R0 : Ar3 => (fun fr s => R0 (fr 0) (fr 1) (fr 5) s)) (z := (fun _ _ _ _ => none)) (B := (fun R0 x0 x1 x5 s => F38.p2 k R0 x0 x1 x5 s)) rfl (fun R0 => F38.e4 k R0)
theorem F38.e6 (k : Nat) : F38.X k F38.c4 (F38.q0 k) xN = (fun fr s => F38.l0 k k (fr 0) (fr 1) (fr 5) s) := blockE (i := 0) (F38.e5 k)
theorem F38.e7 (k : Nat) : F38.X k F38.c2 (retK Tryz.prog F38.rs) xN = (fun fr s => F38.l0 k k (fr 0) (fr 1) (fr 5) s) := seqE (F38.e0 k) (F38.e6 k)
noncomputable abbrev F38.c10 : Code := cL F38.c1
noncomputable def F38.p3 (k : Nat) (x0 x1 : AV) (s : Store) : Rz :=
  F38.l0 k k x0 x1 (AV.int .i64 1) s
noncomputable abbrev F38.q3 (k : Nat) : Kz := fun fr s => F38.p3 k (fr 0) (fr 1) s
theorem F38.e8 (k : Nat) : F38.X k F38.c10 (fun fr s => F38.l0 k k (fr 0) (fr 1) (fr 5) s) xN = (F38.q3 k) := lE
theorem F38.e9 (k : Nat) : F38.X k F38.c1 (retK Tryz.prog F38.rs) xN = (F38.q3 k) := seqE (F38.e7 k) (F38.e8 k)
noncomputable abbrev F38.c11 : Code := cL F38.c0
noncomputable def F38.p4 (k : Nat) (x0 x1 : AV) (s : Store) : Rz :=
  aBin .lss x0 (AV.int .i64 0) fun v1 => (aGuard v1 false (some (x0, s)) (some (AV.tuple [], s))).bind fun g2 => (aGuard v1 false (aBin .gtr g2.1 (AV.int .i64 1048576) fun v4 => some (v4, g2.2)) (some (AV.tuple [], g2.2))).bind fun g3 => aPick v1 (AV.bool true) g3.1 fun v5 => (aGuard v5 false (some (x1, g3.2)) (some (AV.tuple [], g3.2))).bind fun g6 => (aGuard v5 false (aBin .lss g6.1 (AV.int .i64 1) fun v8 => some (v8, g6.2)) (some (AV.tuple [], g6.2))).bind fun g7 => aPick v5 (AV.bool true) g7.1 fun v9 => (aGuard v9 false (some (x1, g7.2)) (some (AV.tuple [], g7.2))).bind fun g10 => (aGuard v9 false (aBin .gtr g10.1 (AV.int .i64 65536) fun v12 => some (v12, g10.2)) (some (AV.tuple [], g10.2))).bind fun g11 => aPick v9 (AV.bool true) g11.1 fun v13 => aIf v13 (some ((AV.int .i64 0), g11.2)) (F38.p3 k x0 x1 g11.2)
noncomputable abbrev F38.q4 (k : Nat) : Kz := fun fr s => F38.p4 k (fr 0) (fr 1) s
theorem F38.e10 (k : Nat) : F38.X k F38.c11 (F38.q3 k) xN = (F38.q4 k) := lE
theorem F38.e11 (k : Nat) : F38.X k F38.c0 (retK Tryz.prog F38.rs) xN = (F38.q4 k) := seqE (F38.e9 k) (F38.e10 k)
noncomputable abbrev F38.c12 : Code := cL F38.code
noncomputable def F38.p5 (k : Nat) (x0 x1 : AV) (s : Store) : Rz :=
  F38.p4 k x0 x1 s
noncomputable abbrev F38.q5 (k : Nat) : Kz := fun fr s => F38.p5 k (fr 0) (fr 1) s
theorem F38.e12 (k : Nat) : F38.X k F38.c12 (F38.q4 k) xN = (F38.q5 k) := lE
theorem F38.e13 (k : Nat) : F38.X k F38.code (retK Tryz.prog F38.rs) xN = (F38.q5 k) := seqE (F38.e11 k) (F38.e12 k)
noncomputable def F38.f (k : Nat) (a0 a1 : AV) (s : Store) : Rz := F38.p5 k a0 a1 s
theorem F38.eq (k : Nat) (a0 a1 : AV) (s : Store) : rn (k + 1) 38 [a0, a1] s = F38.f k a0 a1 s :=
  (rn_eq Tryz.func38 (by kernel_rfl) (by kernel_rfl) (by kernel_rfl) k s (by kernel_rfl)).trans (congrFun (congrFun (F38.e13 k) (frOf [a0, a1])) s)

/-! unison/unisonref29.Bound: function 16 -/
noncomputable def F16.code : Code := bodyOf Tryz.f16
noncomputable def F16.rs : List ResultVar := Tryz.f16.results.toList
noncomputable abbrev F16.X (k : Nat) (c : Code) (n : Kz) (x : Nat → Kz) : Kz := exec Tryz.prog (rn k) k 66 c ⟨n, x, retK Tryz.prog F16.rs⟩
noncomputable abbrev F16.c0 : Code := cR F16.code
noncomputable abbrev F16.c1 : Code := cR F16.c0
noncomputable abbrev F16.c2 : Code := cR F16.c1
noncomputable abbrev F16.c3 : Code := cR F16.c2
noncomputable abbrev F16.c4 : Code := cR F16.c3
noncomputable def F16.p0 (k : Nat) (x1 x4 : AV) (s : Store) : Rz :=
  aFieldAddr 15 x1 fun v1 => aLoad1 v1 s fun v2 => aFieldAddr 11 x1 fun v3 => aLoad1 v3 s fun v4 => aBin .add v2 v4 fun v5 => aBin .add v5 (AV.int .i64 4) fun v6 => aFieldAddr 12 x1 fun v7 => aLoad1 v7 s fun v8 => aBin .add v6 v8 fun v9 => aBin .add v9 (AV.int .i64 4) fun v10 => aBin .add v10 (AV.int .i64 16) fun v11 => aBin .add x4 (AV.int .i64 2) fun v12 => aBin .mul (AV.int .i64 2) v12 fun v13 => aFieldAddr 12 x1 fun v14 => aLoad1 v14 s fun v15 => aBin .add v15 (AV.int .i64 4) fun v16 => aBin .mul v13 v16 fun v17 => aFieldAddr 0 x1 fun v18 => aLoad1 v18 s fun v19 => aBin .mul (AV.int .i64 8) v19 fun v20 => aBin .add v17 v20 fun v21 => aFieldAddr 12 x1 fun v22 => aLoad1 v22 s fun v23 => aBin .mul (AV.int .i64 4) v23 fun v24 => aBin .add v21 v24 fun v25 => aBin .add v25 (AV.int .i64 42) fun v26 => aFieldAddr 0 x1 fun v27 => aLoad1 v27 s fun v28 => aFieldAddr 3 x1 fun v29 => aLoad1 v29 s fun v30 => aBin .mul v28 v30 fun v31 => aBin .mul v31 v26 fun v32 => aBin .add v11 v32 fun v33 => some (v33, s)
noncomputable abbrev F16.q0 (k : Nat) : Kz := fun fr s => F16.p0 k (fr 1) (fr 4) s
theorem F16.e0 (k : Nat) : F16.X k F16.c4 (retK Tryz.prog F16.rs) xN = (F16.q0 k) := lE
noncomputable abbrev F16.c5 : Code := cL F16.c3
noncomputable abbrev F16.x0 (k : Nat) : Nat → Kz := xB 0 (F16.q0 k) xN
noncomputable abbrev F16.c6 : Code := cB F16.c5
noncomputable abbrev F16.c7 : Code := cB F16.c6
noncomputable abbrev F16.c8 : Code := cR F16.c7
noncomputable abbrev F16.x1 (k : Nat) (R0 : Ar3) : Nat → Kz := xB 1 (fun fr s => R0 (fr 1) (fr 3) (fr 4) s) (F16.x0 k)
noncomputable abbrev F16.c9 : Code := cB F16.c8
noncomputable def F16.p1 (k : Nat) (R0 : Ar3) (x1 x3 x4 : AV) (s : Store) : Rz :=
  aBin .add x4 (AV.int .i64 1) fun v1 => aFieldAddr 8 x1 fun v2 => aLoad1 v2 s fun v3 => aBin .sub x3 v3 fun v4 => R0 x1 v4 v1 s
noncomputable abbrev F16.q1 (k : Nat) (R0 : Ar3) : Kz := fun fr s => F16.p1 k R0 (fr 1) (fr 3) (fr 4) s
theorem F16.e1 (k : Nat) (R0 : Ar3) : F16.X k F16.c9 (fun fr s => R0 (fr 1) (fr 3) (fr 4) s) (F16.x1 k R0) = (F16.q1 k R0) := lE
theorem F16.e2 (k : Nat) (R0 : Ar3) : F16.X k F16.c8 (fun fr s => R0 (fr 1) (fr 3) (fr 4) s) (F16.x0 k) = (F16.q1 k R0) := blockE (i := 1) (F16.e1 k R0)
noncomputable abbrev F16.c10 : Code := cL F16.c7
noncomputable def F16.p2 (k : Nat) (R0 : Ar3) (x1 x3 x4 : AV) (s : Store) : Rz :=
  aBin .gtr x3 (AV.int .i64 0) fun v1 => aIf v1 (F16.p1 k R0 x1 x3 x4 s) (F16.p0 k x1 x4 s)
noncomputable abbrev F16.q2 (k : Nat) (R0 : Ar3) : Kz := fun fr s => F16.p2 k R0 (fr 1) (fr 3) (fr 4) s
theorem F16.e3 (k : Nat) (R0 : Ar3) : F16.X k F16.c10 (F16.q1 k R0) (F16.x0 k) = (F16.q2 k R0) := lE
theorem F16.e4 (k : Nat) (R0 : Ar3) : F16.X k F16.c7 (fun fr s => R0 (fr 1) (fr 3) (fr 4) s) (F16.x0 k) = (F16.q2 k R0) := seqE (F16.e2 k R0) (F16.e3 k R0)
noncomputable def F16.l0 (k : Nat) : Nat → Ar3 := iterF (fun _ _ _ _ => none) (fun R0 x1 x3 x4 s => F16.p2 k R0 x1 x3 x4 s)
theorem F16.e5 (k : Nat) : F16.X k F16.c6 (F16.q0 k) (F16.x0 k) = (fun fr s => F16.l0 k k (fr 1) (fr 3) (fr 4) s) := loopE (fun R0 : Ar3 => (fun fr s => R0 (fr 1) (fr 3) (fr 4) s)) (z := (fun _ _ _ _ => none)) (B := (fun R0 x1 x3 x4 s => F16.p2 k R0 x1 x3 x4 s)) rfl (fun R0 => F16.e4 k R0)
theorem F16.e6 (k : Nat) : F16.X k F16.c5 (F16.q0 k) xN = (fun fr s => F16.l0 k k (fr 1) (fr 3) (fr 4) s) := blockE (i := 0) (F16.e5 k)
theorem F16.e7 (k : Nat) : F16.X k F16.c3 (retK Tryz.prog F16.rs) xN = (fun fr s => F16.l0 k k (fr 1) (fr 3) (fr 4) s) := seqE (F16.e0 k) (F16.e6 k)
noncomputable abbrev F16.c11 : Code := cL F16.c2
noncomputable def F16.p3 (k : Nat) (x1 x3 : AV) (s : Store) : Rz :=
  F16.l0 k k x1 x3 (AV.int .i64 0) s
noncomputable abbrev F16.q3 (k : Nat) : Kz := fun fr s => F16.p3 k (fr 1) (fr 3) s
theorem F16.e8 (k : Nat) : F16.X k F16.c11 (fun fr s => F16.l0 k k (fr 1) (fr 3) (fr 4) s) xN = (F16.q3 k) := lE
theorem F16.e9 (k : Nat) : F16.X k F16.c2 (retK Tryz.prog F16.rs) xN = (F16.q3 k) := seqE (F16.e7 k) (F16.e8 k)
noncomputable abbrev F16.c12 : Code := cL F16.c1
noncomputable def F16.p4 (k : Nat) (x1 : AV) (s : Store) : Rz :=
  aFieldAddr 2 x1 fun v1 => aLoad1 v1 s fun v2 => aFieldAddr 1 x1 fun v3 => aLoad1 v3 s fun v4 => (rn k 38 [v2, v4] s).bind fun q5 => F16.p3 k x1 q5.1 q5.2
noncomputable abbrev F16.q4 (k : Nat) : Kz := fun fr s => F16.p4 k (fr 1) s
theorem F16.e10 (k : Nat) : F16.X k F16.c12 (F16.q3 k) xN = (F16.q4 k) := lE
theorem F16.e11 (k : Nat) : F16.X k F16.c1 (retK Tryz.prog F16.rs) xN = (F16.q4 k) := seqE (F16.e9 k) (F16.e10 k)
noncomputable abbrev F16.c13 : Code := cL F16.c0
noncomputable def F16.p5 (k : Nat) (x1 : AV) (s : Store) : Rz :=
  aLoadN 16 x1 s fun v1 => (rn k 17 [v1] s).bind fun q2 => aUn .not q2.1 fun v3 => (aGuard v3 false (aFieldAddr 13 x1 fun v5 => some (v5, q2.2)) (some (AV.tuple [], q2.2))).bind fun g4 => (aGuard v3 false (aLoad1 g4.1 g4.2 fun v7 => some (v7, g4.2)) (some (AV.tuple [], g4.2))).bind fun g6 => (aGuard v3 false (aFieldAddr 11 x1 fun v9 => some (v9, g6.2)) (some (AV.tuple [], g6.2))).bind fun g8 => (aGuard v3 false (aLoad1 g8.1 g8.2 fun v11 => some (v11, g8.2)) (some (AV.tuple [], g8.2))).bind fun g10 => (aGuard v3 false (aBin .lss g6.1 g10.1 fun v13 => some (v13, g10.2)) (some (AV.tuple [], g10.2))).bind fun g12 => aPick v3 (AV.bool true) g12.1 fun v14 => aIf v14 (some ((AV.int .i64 0), g12.2)) (F16.p4 k x1 g12.2)
noncomputable abbrev F16.q5 (k : Nat) : Kz := fun fr s => F16.p5 k (fr 1) s
theorem F16.e12 (k : Nat) : F16.X k F16.c13 (F16.q4 k) xN = (F16.q5 k) := lE
theorem F16.e13 (k : Nat) : F16.X k F16.c0 (retK Tryz.prog F16.rs) xN = (F16.q5 k) := seqE (F16.e11 k) (F16.e12 k)
noncomputable abbrev F16.c14 : Code := cL F16.code
noncomputable def F16.p6 (k : Nat) (x0 : AV) (s : Store) : Rz :=
  aCells x0 fun c1 => aNew c1 s fun v2 s3 => F16.p5 k v2 s3
noncomputable abbrev F16.q6 (k : Nat) : Kz := fun fr s => F16.p6 k (fr 0) s
theorem F16.e14 (k : Nat) : F16.X k F16.c14 (F16.q5 k) xN = (F16.q6 k) := lE
theorem F16.e15 (k : Nat) : F16.X k F16.code (retK Tryz.prog F16.rs) xN = (F16.q6 k) := seqE (F16.e13 k) (F16.e14 k)
noncomputable def F16.f (k : Nat) (a0 : AV) (s : Store) : Rz := F16.p6 k a0 s
theorem F16.eq (k : Nat) (a0 : AV) (s : Store) : rn (k + 1) 16 [a0] s = F16.f k a0 s :=
  (rn_eq Tryz.func16 (by kernel_rfl) (by kernel_rfl) (by kernel_rfl) k s (by kernel_rfl)).trans (congrFun (congrFun (F16.e15 k) (frOf [a0])) s)

/-! unison/unisonlaw29.WitnessBounds: function 5 -/
noncomputable def F5.code : Code := bodyOf Tryz.f5
noncomputable def F5.rs : List ResultVar := Tryz.f5.results.toList
noncomputable abbrev F5.X (k : Nat) (c : Code) (n : Kz) (x : Nat → Kz) : Kz := exec Tryz.prog (rn k) k 44 c ⟨n, x, retK Tryz.prog F5.rs⟩
noncomputable abbrev F5.c0 : Code := cR F5.code
noncomputable abbrev F5.c1 : Code := cR F5.c0
noncomputable abbrev F5.c2 : Code := cR F5.c1
noncomputable abbrev F5.c3 : Code := cR F5.c2
noncomputable def F5.p0 (k : Nat) (x6 : AV) (s : Store) : Rz :=
  some (x6, s)
noncomputable abbrev F5.q0 (k : Nat) : Kz := fun fr s => F5.p0 k (fr 6) s
theorem F5.e0 (k : Nat) : F5.X k F5.c3 (retK Tryz.prog F5.rs) xN = (F5.q0 k) := lE
noncomputable abbrev F5.c4 : Code := cL F5.c2
noncomputable def F5.p1 (k : Nat) (x1 x2 x3 x7 : AV) (s : Store) : Rz :=
  (aLoadN 16 x3 s fun v2 => some (v2, s)).bind fun q1 => ((rn k 15 [q1.1] q1.2).bind fun q4 => some (q4.1, q4.2)).bind fun q3 => (aLoadN 16 x3 q3.2 fun v6 => some (v6, q3.2)).bind fun q5 => (aLoadN 16 x3 q1.2 fun v7 => some (v7, q1.2)).bind fun z8 => aSame z8.1 q5.1 <| ((rn k 16 [q5.1] q5.2).bind fun q10 => some (q10.1, q10.2)).bind fun q9 => (aBin .eql q3.1 q9.1 fun v12 => some (v12, q9.2)).bind fun q11 => (some (q11.1, q11.2)).bind fun q13 => (aGuard q13.1 true (aLoadN 16 x7 q13.2 fun v15 => some (v15, q13.2)) (some (AV.tuple [], q13.2))).bind fun q14 => (aGuard q13.1 true (some (x1, q14.2)) (some (AV.tuple [], q14.2))).bind fun q16 => (aGuard q13.1 true (some (x2, q16.2)) (some (AV.tuple [], q16.2))).bind fun q17 => (aGuard q13.1 true ((rn k 11 [q16.1, q17.1] q17.2).bind fun q19 => some (q19.1, q19.2)) (some (AV.tuple [], q17.2))).bind fun q18 => (aGuard q13.1 true (aLoadN 16 x7 q18.2 fun v20 => some (v20, q18.2)) (some (AV.tuple [], q18.2))).bind fun z21 => aSame z21.1 q14.1 <| (aGuard q13.1 true (aEq (.struct [.int, .int, .int, .int, .int, .int, .int, .int, .int, .int, .int, .int, .int, .int, .int, .int]) q14.1 q18.1 fun b23 => some ((AV.bool b23), q18.2)) (some (AV.tuple [], q18.2))).bind fun q22 => (aPick q13.1 q22.1 (AV.bool false) fun v25 => some (v25, q22.2)).bind fun q24 => (some (q24.1, q24.2)).bind fun q26 => (aGuard q26.1 true (aLoadN 16 x7 q26.2 fun v28 => some (v28, q26.2)) (some (AV.tuple [], q26.2))).bind fun q27 => (aGuard q26.1 true ((rn k 17 [q27.1] q27.2).bind fun q30 => some (q30.1, q30.2)) (some (AV.tuple [], q27.2))).bind fun q29 => (aPick q26.1 q29.1 (AV.bool false) fun v32 => some (v32, q29.2)).bind fun q31 => (some (q31.1, q31.2)).bind fun q33 => (aGuard q33.1 true (aLoadN 16 x7 q33.2 fun v35 => some (v35, q33.2)) (some (AV.tuple [], q33.2))).bind fun q34 => (aGuard q33.1 true ((rn k 15 [q34.1] q34.2).bind fun q37 => some (q37.1, q37.2)) (some (AV.tuple [], q34.2))).bind fun q36 => (aGuard q33.1 true (aBin .gtr q36.1 (AV.int .i64 0) fun v39 => some (v39, q36.2)) (some (AV.tuple [], q36.2))).bind fun q38 => (aPick q33.1 q38.1 (AV.bool false) fun v41 => some (v41, q38.2)).bind fun q40 => (some (q40.1, q40.2)).bind fun q42 => (aGuard q42.1 true ((rn k 7 [] q42.2).bind fun q44 => some (q44.1, q44.2)) (some (AV.tuple [], q42.2))).bind fun q43 => (aPick q42.1 q43.1 (AV.bool false) fun v46 => some (v46, q43.2)).bind fun q45 => (some (q45.1, q45.2)).bind fun q47 => F5.p0 k q47.1 q47.2
noncomputable abbrev F5.q1 (k : Nat) : Kz := fun fr s => F5.p1 k (fr 1) (fr 2) (fr 3) (fr 7) s
theorem F5.e1 (k : Nat) : F5.X k F5.c4 (F5.q0 k) xN = (F5.q1 k) := drawE [0, 1, 0, 7, 15, 31, 63, 63, 63, 447, 1023, 2047, 4095, 8191, 16383, 32767, 65535, 131071, 262143, 524287, 1048575, 2097151, 4194303, 8388607, 16777215]
theorem F5.e2 (k : Nat) : F5.X k F5.c2 (retK Tryz.prog F5.rs) xN = (F5.q1 k) := seqE (F5.e0 k) (F5.e1 k)
noncomputable abbrev F5.c5 : Code := cL F5.c1
noncomputable def F5.p2 (k : Nat) (x1 x2 x3 : AV) (s : Store) : Rz :=
  (rn k 14 [x1, x2] s).bind fun q1 => aNew [AV.int .i64 0, AV.int .i64 0, AV.int .i64 0, AV.int .i64 0, AV.int .i64 0, AV.int .i64 0, AV.int .i64 0, AV.int .i64 0, AV.int .i64 0, AV.int .i64 0, AV.int .i64 0, AV.int .i64 0, AV.int .i64 0, AV.int .i64 0, AV.int .i64 0, AV.int .i64 0] q1.2 fun v2 s3 => aStore 16 v2 q1.1 s3 fun s4 => F5.p1 k x1 x2 x3 v2 s4
noncomputable abbrev F5.q2 (k : Nat) : Kz := fun fr s => F5.p2 k (fr 1) (fr 2) (fr 3) s
theorem F5.e3 (k : Nat) : F5.X k F5.c5 (F5.q1 k) xN = (F5.q2 k) := lE
theorem F5.e4 (k : Nat) : F5.X k F5.c1 (retK Tryz.prog F5.rs) xN = (F5.q2 k) := seqE (F5.e2 k) (F5.e3 k)
noncomputable abbrev F5.c6 : Code := cL F5.c0
noncomputable def F5.p3 (k : Nat) (x1 x2 x3 : AV) (s : Store) : Rz :=
  aFieldAddr 2 x3 fun v1 => aLoad1 v1 s fun v2 => aBin .gtr v2 (AV.int .i64 5000) fun v3 => (aGuard v3 true (aFieldAddr 2 x3 fun v5 => some (v5, s)) (some (AV.tuple [], s))).bind fun g4 => (aGuard v3 true (aLoad1 g4.1 g4.2 fun v7 => some (v7, g4.2)) (some (AV.tuple [], g4.2))).bind fun g6 => (aGuard v3 true (aBin .leq g6.1 (AV.int .i64 1048576) fun v9 => some (v9, g6.2)) (some (AV.tuple [], g6.2))).bind fun g8 => aPick v3 g8.1 (AV.bool false) fun v10 => aIf v10 ((rn k 7 [] g8.2).bind fun q11 => some (q11.1, q11.2)) (F5.p2 k x1 x2 x3 g8.2)
noncomputable abbrev F5.q3 (k : Nat) : Kz := fun fr s => F5.p3 k (fr 1) (fr 2) (fr 3) s
theorem F5.e5 (k : Nat) : F5.X k F5.c6 (F5.q2 k) xN = (F5.q3 k) := lE
theorem F5.e6 (k : Nat) : F5.X k F5.c0 (retK Tryz.prog F5.rs) xN = (F5.q3 k) := seqE (F5.e4 k) (F5.e5 k)
noncomputable abbrev F5.c7 : Code := cL F5.code
noncomputable def F5.p4 (k : Nat) (x0 x1 x2 : AV) (s : Store) : Rz :=
  aCells x0 fun c1 => aNew c1 s fun v2 s3 => F5.p3 k x1 x2 v2 s3
noncomputable abbrev F5.q4 (k : Nat) : Kz := fun fr s => F5.p4 k (fr 0) (fr 1) (fr 2) s
theorem F5.e7 (k : Nat) : F5.X k F5.c7 (F5.q3 k) xN = (F5.q4 k) := lE
theorem F5.e8 (k : Nat) : F5.X k F5.code (retK Tryz.prog F5.rs) xN = (F5.q4 k) := seqE (F5.e6 k) (F5.e7 k)
noncomputable def F5.f (k : Nat) (a0 a1 a2 : AV) (s : Store) : Rz := F5.p4 k a0 a1 a2 s
theorem F5.eq (k : Nat) (a0 a1 a2 : AV) (s : Store) : rn (k + 1) 5 [a0, a1, a2] s = F5.f k a0 a1 a2 s :=
  (rn_eq Tryz.func5 (by kernel_rfl) (by kernel_rfl) (by kernel_rfl) k s (by kernel_rfl)).trans (congrFun (congrFun (F5.e8 k) (frOf [a0, a1, a2])) s)

/-! unison/witness.Make: function 9 -/
noncomputable def F9.code : Code := bodyOf Tryz.f9
noncomputable def F9.rs : List ResultVar := Tryz.f9.results.toList
noncomputable abbrev F9.X (k : Nat) (c : Code) (n : Kz) (x : Nat → Kz) : Kz := exec Tryz.prog (rn k) k 78 c ⟨n, x, retK Tryz.prog F9.rs⟩
noncomputable abbrev F9.c0 : Code := cR F9.code
noncomputable abbrev F9.c1 : Code := cR F9.c0
noncomputable abbrev F9.c2 : Code := cR F9.c1
noncomputable abbrev F9.c3 : Code := cR F9.c2
noncomputable abbrev F9.c4 : Code := cR F9.c3
noncomputable abbrev F9.c5 : Code := cR F9.c4
noncomputable abbrev F9.c6 : Code := cR F9.c5
noncomputable abbrev F9.c7 : Code := cR F9.c6
noncomputable abbrev F9.c8 : Code := cR F9.c7
noncomputable abbrev F9.c9 : Code := cR F9.c8
noncomputable abbrev F9.c10 : Code := cR F9.c9
noncomputable def F9.p0 (k : Nat) (x4 x5 : AV) (s : Store) : Rz :=
  aLoadN 17 x4 s fun v1 => some (AV.tuple [v1, x5], s)
noncomputable abbrev F9.q0 (k : Nat) : Kz := fun fr s => F9.p0 k (fr 4) (fr 5) s
theorem F9.e0 (k : Nat) : F9.X k F9.c10 (retK Tryz.prog F9.rs) xN = (F9.q0 k) := lE
noncomputable abbrev F9.c11 : Code := cL F9.c9
noncomputable def F9.p1 (k : Nat) (x4 x6 x9 : AV) (s : Store) : Rz :=
  (aLoadN 16 x6 s fun v2 => some (v2, s)).bind fun q1 => (some (x9, q1.2)).bind fun q3 => (aNilCheck q3.1 fun v5 => some (v5, q3.2)).bind fun q4 => (aFieldAddr 1 q4.1 fun v7 => some (v7, q4.2)).bind fun q6 => (aLoad1 q6.1 q6.2 fun v9 => some (v9, q6.2)).bind fun q8 => (aBuild [(0, 16, q1.1), (16, 1, q8.1)] [AV.int .i64 0, AV.int .i64 0, AV.int .i64 0, AV.int .i64 0, AV.int .i64 0, AV.int .i64 0, AV.int .i64 0, AV.int .i64 0, AV.int .i64 0, AV.int .i64 0, AV.int .i64 0, AV.int .i64 0, AV.int .i64 0, AV.int .i64 0, AV.int .i64 0, AV.int .i64 0, AV.nilsl] fun c11 => some ((AV.agg c11), q8.2)).bind fun q10 => (aStore 17 x4 q10.1 q10.2 fun s13 => some ((AV.tuple []), s13)).bind fun q12 => (some ((AV.int .i64 0), q12.2)).bind fun q14 => F9.p0 k x4 q14.1 q14.2
noncomputable abbrev F9.q1 (k : Nat) : Kz := fun fr s => F9.p1 k (fr 4) (fr 6) (fr 9) s
theorem F9.e1 (k : Nat) : F9.X k F9.c11 (F9.q0 k) xN = (F9.q1 k) := drawE [0, 0, 2, 6, 14, 31, 63, 127]
theorem F9.e2 (k : Nat) : F9.X k F9.c9 (retK Tryz.prog F9.rs) xN = (F9.q1 k) := seqE (F9.e0 k) (F9.e1 k)
noncomputable abbrev F9.c12 : Code := cL F9.c8
noncomputable abbrev F9.c13 : Code := cR F9.c12
noncomputable abbrev F9.x0 (k : Nat) : Nat → Kz := xB 4 (F9.q1 k) xN
noncomputable abbrev F9.c14 : Code := cB F9.c13
noncomputable abbrev F9.c15 : Code := cB F9.c14
noncomputable abbrev F9.c16 : Code := cR F9.c15
noncomputable abbrev F9.c17 : Code := cR F9.c16
noncomputable def F9.p2 (k : Nat) (R0 : Ar5) (x0 x4 x6 x9 x11 : AV) (s : Store) : Rz :=
  aBin .add x11 (AV.int .i64 1) fun v1 => R0 x0 x4 x6 x9 v1 s
noncomputable abbrev F9.q2 (k : Nat) (R0 : Ar5) : Kz := fun fr s => F9.p2 k R0 (fr 0) (fr 4) (fr 6) (fr 9) (fr 11) s
theorem F9.e3 (k : Nat) (R0 : Ar5) : F9.X k F9.c17 (fun fr s => R0 (fr 0) (fr 4) (fr 6) (fr 9) (fr 11) s) (F9.x0 k) = (F9.q2 k R0) := lE
noncomputable abbrev F9.c18 : Code := cL F9.c16
noncomputable abbrev F9.x1 (k : Nat) (R0 : Ar5) : Nat → Kz := xB 5 (F9.q2 k R0) (F9.x0 k)
noncomputable abbrev F9.c19 : Code := cB F9.c18
noncomputable def F9.p3 (k : Nat) (R0 : Ar5) (x0 x4 x6 x9 x11 : AV) (s : Store) : Rz :=
  aConvInt .u8 x11 fun v1 => aBuild [(0, 1, (AV.int .u8 6)), (1, 1, v1)] [AV.int .u8 0, AV.int .u8 0, AV.int .u8 0, AV.int .i64 0, AV.int .i64 0, AV.int .u32 0, AV.nilsl] fun c2 => (rn k 29 [x9, (AV.agg c2)] s).bind fun q3 => F9.p2 k R0 x0 x4 x6 x9 x11 q3.2
noncomputable abbrev F9.q3 (k : Nat) (R0 : Ar5) : Kz := fun fr s => F9.p3 k R0 (fr 0) (fr 4) (fr 6) (fr 9) (fr 11) s
theorem F9.e4 (k : Nat) (R0 : Ar5) : F9.X k F9.c19 (F9.q2 k R0) (F9.x1 k R0) = (F9.q3 k R0) := lE
theorem F9.e5 (k : Nat) (R0 : Ar5) : F9.X k F9.c18 (F9.q2 k R0) (F9.x0 k) = (F9.q3 k R0) := blockE (i := 5) (F9.e4 k R0)
theorem F9.e6 (k : Nat) (R0 : Ar5) : F9.X k F9.c16 (fun fr s => R0 (fr 0) (fr 4) (fr 6) (fr 9) (fr 11) s) (F9.x0 k) = (F9.q3 k R0) := seqE (F9.e3 k R0) (F9.e5 k R0)
noncomputable abbrev F9.c20 : Code := cL F9.c15
noncomputable def F9.p4 (k : Nat) (R0 : Ar5) (x0 x4 x6 x9 x11 : AV) (s : Store) : Rz :=
  aBin .lss x11 x0 fun v1 => aIf v1 (F9.p3 k R0 x0 x4 x6 x9 x11 s) (F9.p1 k x4 x6 x9 s)
noncomputable abbrev F9.q4 (k : Nat) (R0 : Ar5) : Kz := fun fr s => F9.p4 k R0 (fr 0) (fr 4) (fr 6) (fr 9) (fr 11) s
theorem F9.e7 (k : Nat) (R0 : Ar5) : F9.X k F9.c20 (F9.q3 k R0) (F9.x0 k) = (F9.q4 k R0) := lE
theorem F9.e8 (k : Nat) (R0 : Ar5) : F9.X k F9.c15 (fun fr s => R0 (fr 0) (fr 4) (fr 6) (fr 9) (fr 11) s) (F9.x0 k) = (F9.q4 k R0) := seqE (F9.e6 k R0) (F9.e7 k R0)
noncomputable def F9.l0 (k : Nat) : Nat → Ar5 := iterF (fun _ _ _ _ _ _ => none) (fun R0 x0 x4 x6 x9 x11 s => F9.p4 k R0 x0 x4 x6 x9 x11 s)
theorem F9.e9 (k : Nat) : F9.X k F9.c14 (F9.q1 k) (F9.x0 k) = (fun fr s => F9.l0 k k (fr 0) (fr 4) (fr 6) (fr 9) (fr 11) s) := loopE (fun R0 : Ar5 => (fun fr s => R0 (fr 0) (fr 4) (fr 6) (fr 9) (fr 11) s)) (z := (fun _ _ _ _ _ _ => none)) (B := (fun R0 x0 x4 x6 x9 x11 s => F9.p4 k R0 x0 x4 x6 x9 x11 s)) rfl (fun R0 => F9.e8 k R0)
theorem F9.e10 (k : Nat) : F9.X k F9.c13 (F9.q1 k) xN = (fun fr s => F9.l0 k k (fr 0) (fr 4) (fr 6) (fr 9) (fr 11) s) := blockE (i := 4) (F9.e9 k)
noncomputable abbrev F9.c21 : Code := cL F9.c12
noncomputable def F9.p5 (k : Nat) (x0 x4 x6 x9 x10 : AV) (s : Store) : Rz :=
  F9.l0 k k x0 x4 x6 x9 x10 s
noncomputable abbrev F9.q5 (k : Nat) : Kz := fun fr s => F9.p5 k (fr 0) (fr 4) (fr 6) (fr 9) (fr 10) s
theorem F9.e11 (k : Nat) : F9.X k F9.c21 (fun fr s => F9.l0 k k (fr 0) (fr 4) (fr 6) (fr 9) (fr 11) s) xN = (F9.q5 k) := lE
theorem F9.e12 (k : Nat) : F9.X k F9.c12 (F9.q1 k) xN = (F9.q5 k) := seqE (F9.e10 k) (F9.e11 k)
theorem F9.e13 (k : Nat) : F9.X k F9.c8 (retK Tryz.prog F9.rs) xN = (F9.q5 k) := seqE (F9.e2 k) (F9.e12 k)
noncomputable abbrev F9.c22 : Code := cL F9.c7
noncomputable abbrev F9.x2 (k : Nat) : Nat → Kz := xB 2 (F9.q5 k) xN
noncomputable abbrev F9.c23 : Code := cB F9.c22
noncomputable abbrev F9.c24 : Code := cB F9.c23
noncomputable abbrev F9.c25 : Code := cR F9.c24
noncomputable abbrev F9.x3 (k : Nat) (R0 : Ar5) : Nat → Kz := xB 3 (fun fr s => R0 (fr 0) (fr 4) (fr 6) (fr 9) (fr 10) s) (F9.x2 k)
noncomputable abbrev F9.c26 : Code := cB F9.c25
noncomputable def F9.p6 (k : Nat) (R0 : Ar5) (x0 x4 x6 x9 x10 : AV) (s : Store) : Rz :=
  (rn k 28 [x9] s).bind fun q1 => R0 x0 x4 x6 x9 x10 q1.2
noncomputable abbrev F9.q6 (k : Nat) (R0 : Ar5) : Kz := fun fr s => F9.p6 k R0 (fr 0) (fr 4) (fr 6) (fr 9) (fr 10) s
theorem F9.e14 (k : Nat) (R0 : Ar5) : F9.X k F9.c26 (fun fr s => R0 (fr 0) (fr 4) (fr 6) (fr 9) (fr 10) s) (F9.x3 k R0) = (F9.q6 k R0) := lE
theorem F9.e15 (k : Nat) (R0 : Ar5) : F9.X k F9.c25 (fun fr s => R0 (fr 0) (fr 4) (fr 6) (fr 9) (fr 10) s) (F9.x2 k) = (F9.q6 k R0) := blockE (i := 3) (F9.e14 k R0)
noncomputable abbrev F9.c27 : Code := cL F9.c24
noncomputable def F9.p7 (k : Nat) (R0 : Ar5) (x0 x4 x6 x9 x10 : AV) (s : Store) : Rz :=
  (rn k 30 [x9, x10, x0] s).bind fun q1 => aUn .not q1.1 fun v2 => aIf v2 (F9.p6 k R0 x0 x4 x6 x9 x10 q1.2) (F9.p5 k x0 x4 x6 x9 x10 q1.2)
noncomputable abbrev F9.q7 (k : Nat) (R0 : Ar5) : Kz := fun fr s => F9.p7 k R0 (fr 0) (fr 4) (fr 6) (fr 9) (fr 10) s
theorem F9.e16 (k : Nat) (R0 : Ar5) : F9.X k F9.c27 (F9.q6 k R0) (F9.x2 k) = (F9.q7 k R0) := lE
theorem F9.e17 (k : Nat) (R0 : Ar5) : F9.X k F9.c24 (fun fr s => R0 (fr 0) (fr 4) (fr 6) (fr 9) (fr 10) s) (F9.x2 k) = (F9.q7 k R0) := seqE (F9.e15 k R0) (F9.e16 k R0)
noncomputable def F9.l1 (k : Nat) : Nat → Ar5 := iterF (fun _ _ _ _ _ _ => none) (fun R0 x0 x4 x6 x9 x10 s => F9.p7 k R0 x0 x4 x6 x9 x10 s)
theorem F9.e18 (k : Nat) : F9.X k F9.c23 (F9.q5 k) (F9.x2 k) = (fun fr s => F9.l1 k k (fr 0) (fr 4) (fr 6) (fr 9) (fr 10) s) := loopE (fun R0 : Ar5 => (fun fr s => R0 (fr 0) (fr 4) (fr 6) (fr 9) (fr 10) s)) (z := (fun _ _ _ _ _ _ => none)) (B := (fun R0 x0 x4 x6 x9 x10 s => F9.p7 k R0 x0 x4 x6 x9 x10 s)) rfl (fun R0 => F9.e17 k R0)
theorem F9.e19 (k : Nat) : F9.X k F9.c22 (F9.q5 k) xN = (fun fr s => F9.l1 k k (fr 0) (fr 4) (fr 6) (fr 9) (fr 10) s) := blockE (i := 2) (F9.e18 k)
theorem F9.e20 (k : Nat) : F9.X k F9.c7 (retK Tryz.prog F9.rs) xN = (fun fr s => F9.l1 k k (fr 0) (fr 4) (fr 6) (fr 9) (fr 10) s) := seqE (F9.e13 k) (F9.e19 k)
noncomputable abbrev F9.c28 : Code := cL F9.c6
noncomputable def F9.p8 (k : Nat) (x0 x4 x6 x9 : AV) (s : Store) : Rz :=
  aBin .sub x0 (AV.int .i64 1) fun v1 => aBin .quo v1 (AV.int .i64 2) fun v2 => aBin .sub x0 v2 fun v3 => F9.l1 k k x0 x4 x6 x9 v3 s
noncomputable abbrev F9.q8 (k : Nat) : Kz := fun fr s => F9.p8 k (fr 0) (fr 4) (fr 6) (fr 9) s
theorem F9.e21 (k : Nat) : F9.X k F9.c28 (fun fr s => F9.l1 k k (fr 0) (fr 4) (fr 6) (fr 9) (fr 10) s) xN = (F9.q8 k) := lE
theorem F9.e22 (k : Nat) : F9.X k F9.c6 (retK Tryz.prog F9.rs) xN = (F9.q8 k) := seqE (F9.e20 k) (F9.e21 k)
noncomputable abbrev F9.c29 : Code := cL F9.c5
noncomputable abbrev F9.c30 : Code := cR F9.c29
noncomputable abbrev F9.x4 (k : Nat) : Nat → Kz := xB 0 (F9.q8 k) xN
noncomputable abbrev F9.c31 : Code := cB F9.c30
noncomputable abbrev F9.c32 : Code := cB F9.c31
noncomputable abbrev F9.c33 : Code := cR F9.c32
noncomputable abbrev F9.c34 : Code := cR F9.c33
noncomputable def F9.p9 (k : Nat) (R0 : Ar5) (x0 x1 x4 x6 x9 : AV) (s : Store) : Rz :=
  (rn k 28 [x9] s).bind fun q1 => R0 x0 x1 x4 x6 x9 q1.2
noncomputable abbrev F9.q9 (k : Nat) (R0 : Ar5) : Kz := fun fr s => F9.p9 k R0 (fr 0) (fr 1) (fr 4) (fr 6) (fr 9) s
theorem F9.e23 (k : Nat) (R0 : Ar5) : F9.X k F9.c34 (fun fr s => R0 (fr 0) (fr 1) (fr 4) (fr 6) (fr 9) s) (F9.x4 k) = (F9.q9 k R0) := lE
noncomputable abbrev F9.c35 : Code := cL F9.c33
noncomputable abbrev F9.x5 (k : Nat) (R0 : Ar5) : Nat → Kz := xB 1 (F9.q9 k R0) (F9.x4 k)
noncomputable abbrev F9.c36 : Code := cB F9.c35
noncomputable def F9.p10 (k : Nat) (R0 : Ar5) (x0 x1 x4 x6 x9 : AV) (s : Store) : Rz :=
  F9.p9 k R0 x0 x1 x4 x6 x9 s
noncomputable abbrev F9.q10 (k : Nat) (R0 : Ar5) : Kz := fun fr s => F9.p10 k R0 (fr 0) (fr 1) (fr 4) (fr 6) (fr 9) s
theorem F9.e24 (k : Nat) (R0 : Ar5) : F9.X k F9.c36 (F9.q9 k R0) (F9.x5 k R0) = (F9.q10 k R0) := lE
theorem F9.e25 (k : Nat) (R0 : Ar5) : F9.X k F9.c35 (F9.q9 k R0) (F9.x4 k) = (F9.q10 k R0) := blockE (i := 1) (F9.e24 k R0)
theorem F9.e26 (k : Nat) (R0 : Ar5) : F9.X k F9.c33 (fun fr s => R0 (fr 0) (fr 1) (fr 4) (fr 6) (fr 9) s) (F9.x4 k) = (F9.q10 k R0) := seqE (F9.e23 k R0) (F9.e25 k R0)
noncomputable abbrev F9.c37 : Code := cL F9.c32
noncomputable def F9.p11 (k : Nat) (R0 : Ar5) (x0 x1 x4 x6 x9 : AV) (s : Store) : Rz :=
  aBuild [(0, 1, (AV.int .u8 8)), (6, 1, x1)] [AV.int .u8 0, AV.int .u8 0, AV.int .u8 0, AV.int .i64 0, AV.int .i64 0, AV.int .u32 0, AV.nilsl] fun c1 => (rn k 29 [x9, (AV.agg c1)] s).bind fun q2 => aUn .not q2.1 fun v3 => aIf v3 (F9.p10 k R0 x0 x1 x4 x6 x9 q2.2) (F9.p8 k x0 x4 x6 x9 q2.2)
noncomputable abbrev F9.q11 (k : Nat) (R0 : Ar5) : Kz := fun fr s => F9.p11 k R0 (fr 0) (fr 1) (fr 4) (fr 6) (fr 9) s
theorem F9.e27 (k : Nat) (R0 : Ar5) : F9.X k F9.c37 (F9.q10 k R0) (F9.x4 k) = (F9.q11 k R0) := lE
theorem F9.e28 (k : Nat) (R0 : Ar5) : F9.X k F9.c32 (fun fr s => R0 (fr 0) (fr 1) (fr 4) (fr 6) (fr 9) s) (F9.x4 k) = (F9.q11 k R0) := seqE (F9.e26 k R0) (F9.e27 k R0)
noncomputable def F9.l2 (k : Nat) : Nat → Ar5 := iterF (fun _ _ _ _ _ _ => none) (fun R0 x0 x1 x4 x6 x9 s => F9.p11 k R0 x0 x1 x4 x6 x9 s)
theorem F9.e29 (k : Nat) : F9.X k F9.c31 (F9.q8 k) (F9.x4 k) = (fun fr s => F9.l2 k k (fr 0) (fr 1) (fr 4) (fr 6) (fr 9) s) := loopE (fun R0 : Ar5 => (fun fr s => R0 (fr 0) (fr 1) (fr 4) (fr 6) (fr 9) s)) (z := (fun _ _ _ _ _ _ => none)) (B := (fun R0 x0 x1 x4 x6 x9 s => F9.p11 k R0 x0 x1 x4 x6 x9 s)) rfl (fun R0 => F9.e28 k R0)
theorem F9.e30 (k : Nat) : F9.X k F9.c30 (F9.q8 k) xN = (fun fr s => F9.l2 k k (fr 0) (fr 1) (fr 4) (fr 6) (fr 9) s) := blockE (i := 0) (F9.e29 k)
noncomputable abbrev F9.c38 : Code := cL F9.c29
noncomputable def F9.p12 (k : Nat) (x0 x1 x4 x6 x9 : AV) (s : Store) : Rz :=
  (rn k 28 [x9] s).bind fun q1 => F9.l2 k k x0 x1 x4 x6 x9 q1.2
noncomputable abbrev F9.q12 (k : Nat) : Kz := fun fr s => F9.p12 k (fr 0) (fr 1) (fr 4) (fr 6) (fr 9) s
theorem F9.e31 (k : Nat) : F9.X k F9.c38 (fun fr s => F9.l2 k k (fr 0) (fr 1) (fr 4) (fr 6) (fr 9) s) xN = (F9.q12 k) := lE
theorem F9.e32 (k : Nat) : F9.X k F9.c29 (F9.q8 k) xN = (F9.q12 k) := seqE (F9.e30 k) (F9.e31 k)
theorem F9.e33 (k : Nat) : F9.X k F9.c5 (retK Tryz.prog F9.rs) xN = (F9.q12 k) := seqE (F9.e22 k) (F9.e32 k)
noncomputable abbrev F9.c39 : Code := cL F9.c4
noncomputable def F9.p13 (k : Nat) (x0 x1 x4 x6 x7 : AV) (s : Store) : Rz :=
  aBuild [(0, 1, x7)] [AV.nilptr, AV.nilsl] fun c1 => aCells (AV.agg c1) fun c2 => aNew c2 s fun v3 s4 => F9.p12 k x0 x1 x4 x6 v3 s4
noncomputable abbrev F9.q13 (k : Nat) : Kz := fun fr s => F9.p13 k (fr 0) (fr 1) (fr 4) (fr 6) (fr 7) s
theorem F9.e34 (k : Nat) : F9.X k F9.c39 (F9.q12 k) xN = (F9.q13 k) := lE
theorem F9.e35 (k : Nat) : F9.X k F9.c4 (retK Tryz.prog F9.rs) xN = (F9.q13 k) := seqE (F9.e33 k) (F9.e34 k)
noncomputable abbrev F9.c40 : Code := cL F9.c3
noncomputable def F9.p14 (k : Nat) (x0 x1 x4 x6 x7 x8 : AV) (s : Store) : Rz :=
  aBin .neq x8 (AV.int .i64 0) fun v1 => aIf v1 (aBuild [] [AV.int .i64 0, AV.int .i64 0, AV.int .i64 0, AV.int .i64 0, AV.int .i64 0, AV.int .i64 0, AV.int .i64 0, AV.int .i64 0, AV.int .i64 0, AV.int .i64 0, AV.int .i64 0, AV.int .i64 0, AV.int .i64 0, AV.int .i64 0, AV.int .i64 0, AV.int .i64 0, AV.nilsl] fun c2 => aStore 17 x4 (AV.agg c2) s fun s3 => aLoadN 17 x4 s3 fun v4 => some (AV.tuple [v4, x8], s3)) (F9.p13 k x0 x1 x4 x6 x7 s)
noncomputable abbrev F9.q14 (k : Nat) : Kz := fun fr s => F9.p14 k (fr 0) (fr 1) (fr 4) (fr 6) (fr 7) (fr 8) s
theorem F9.e36 (k : Nat) : F9.X k F9.c40 (F9.q13 k) xN = (F9.q14 k) := lE
theorem F9.e37 (k : Nat) : F9.X k F9.c3 (retK Tryz.prog F9.rs) xN = (F9.q14 k) := seqE (F9.e35 k) (F9.e36 k)
noncomputable abbrev F9.c41 : Code := cL F9.c2
noncomputable def F9.p15 (k : Nat) (x0 x1 x4 x6 : AV) (s : Store) : Rz :=
  aLoadN 16 x6 s fun v1 => (rn k 19 [v1] s).bind fun q2 => aExtract 0 q2.1 fun v3 => aExtract 1 q2.1 fun v4 => F9.p14 k x0 x1 x4 x6 v3 v4 q2.2
noncomputable abbrev F9.q15 (k : Nat) : Kz := fun fr s => F9.p15 k (fr 0) (fr 1) (fr 4) (fr 6) s
theorem F9.e38 (k : Nat) : F9.X k F9.c41 (F9.q14 k) xN = (F9.q15 k) := lE
theorem F9.e39 (k : Nat) : F9.X k F9.c2 (retK Tryz.prog F9.rs) xN = (F9.q15 k) := seqE (F9.e37 k) (F9.e38 k)
noncomputable abbrev F9.c42 : Code := cL F9.c1
noncomputable def F9.p16 (k : Nat) (x0 x1 x4 : AV) (s : Store) : Rz :=
  aLen x1 fun v1 => (rn k 14 [x0, v1] s).bind fun q2 => aNew [AV.int .i64 0, AV.int .i64 0, AV.int .i64 0, AV.int .i64 0, AV.int .i64 0, AV.int .i64 0, AV.int .i64 0, AV.int .i64 0, AV.int .i64 0, AV.int .i64 0, AV.int .i64 0, AV.int .i64 0, AV.int .i64 0, AV.int .i64 0, AV.int .i64 0, AV.int .i64 0] q2.2 fun v3 s4 => aStore 16 v3 q2.1 s4 fun s5 => F9.p15 k x0 x1 x4 v3 s5
noncomputable abbrev F9.q16 (k : Nat) : Kz := fun fr s => F9.p16 k (fr 0) (fr 1) (fr 4) s
theorem F9.e40 (k : Nat) : F9.X k F9.c42 (F9.q15 k) xN = (F9.q16 k) := lE
theorem F9.e41 (k : Nat) : F9.X k F9.c1 (retK Tryz.prog F9.rs) xN = (F9.q16 k) := seqE (F9.e39 k) (F9.e40 k)
noncomputable abbrev F9.c43 : Code := cL F9.c0
noncomputable def F9.p17 (k : Nat) (x0 x1 x4 : AV) (s : Store) : Rz :=
  aBin .lss x0 (AV.int .i64 1) fun v1 => (aGuard v1 false (some (x0, s)) (some (AV.tuple [], s))).bind fun g2 => (aGuard v1 false (aBin .gtr g2.1 (AV.int .i64 64) fun v4 => some (v4, g2.2)) (some (AV.tuple [], g2.2))).bind fun g3 => aPick v1 (AV.bool true) g3.1 fun v5 => (aGuard v5 false (some (x1, g3.2)) (some (AV.tuple [], g3.2))).bind fun g6 => (aGuard v5 false (aLen g6.1 fun v8 => some (v8, g6.2)) (some (AV.tuple [], g6.2))).bind fun g7 => (aGuard v5 false (aBin .gtr g7.1 (AV.int .i64 1048576) fun v10 => some (v10, g7.2)) (some (AV.tuple [], g7.2))).bind fun g9 => aPick v5 (AV.bool true) g9.1 fun v11 => aIf v11 (aBuild [] [AV.int .i64 0, AV.int .i64 0, AV.int .i64 0, AV.int .i64 0, AV.int .i64 0, AV.int .i64 0, AV.int .i64 0, AV.int .i64 0, AV.int .i64 0, AV.int .i64 0, AV.int .i64 0, AV.int .i64 0, AV.int .i64 0, AV.int .i64 0, AV.int .i64 0, AV.int .i64 0, AV.nilsl] fun c12 => aStore 17 x4 (AV.agg c12) g9.2 fun s13 => aLoadN 17 x4 s13 fun v14 => some (AV.tuple [v14, (AV.int .i64 1)], s13)) (F9.p16 k x0 x1 x4 g9.2)
noncomputable abbrev F9.q17 (k : Nat) : Kz := fun fr s => F9.p17 k (fr 0) (fr 1) (fr 4) s
theorem F9.e42 (k : Nat) : F9.X k F9.c43 (F9.q16 k) xN = (F9.q17 k) := lE
theorem F9.e43 (k : Nat) : F9.X k F9.c0 (retK Tryz.prog F9.rs) xN = (F9.q17 k) := seqE (F9.e41 k) (F9.e42 k)
noncomputable abbrev F9.c44 : Code := cL F9.code
noncomputable def F9.p18 (k : Nat) (x0 x1 : AV) (s : Store) : Rz :=
  aNew [AV.int .i64 0, AV.int .i64 0, AV.int .i64 0, AV.int .i64 0, AV.int .i64 0, AV.int .i64 0, AV.int .i64 0, AV.int .i64 0, AV.int .i64 0, AV.int .i64 0, AV.int .i64 0, AV.int .i64 0, AV.int .i64 0, AV.int .i64 0, AV.int .i64 0, AV.int .i64 0, AV.nilsl] s fun v1 s2 => F9.p17 k x0 x1 v1 s2
noncomputable abbrev F9.q18 (k : Nat) : Kz := fun fr s => F9.p18 k (fr 0) (fr 1) s
theorem F9.e44 (k : Nat) : F9.X k F9.c44 (F9.q17 k) xN = (F9.q18 k) := lE
theorem F9.e45 (k : Nat) : F9.X k F9.code (retK Tryz.prog F9.rs) xN = (F9.q18 k) := seqE (F9.e43 k) (F9.e44 k)
noncomputable def F9.f (k : Nat) (a0 a1 : AV) (s : Store) : Rz := F9.p18 k a0 a1 s
theorem F9.eq (k : Nat) (a0 a1 : AV) (s : Store) : rn (k + 1) 9 [a0, a1] s = F9.f k a0 a1 s :=
  (rn_eq Tryz.func9 (by kernel_rfl) (by kernel_rfl) (by kernel_rfl) k s (by kernel_rfl)).trans (congrFun (congrFun (F9.e45 k) (frOf [a0, a1])) s)

/-! unison/unisonlaw29.WitnessLong: function 4 -/
noncomputable def F4.code : Code := bodyOf Tryz.f4
noncomputable def F4.rs : List ResultVar := Tryz.f4.results.toList
noncomputable abbrev F4.X (k : Nat) (c : Code) (n : Kz) (x : Nat → Kz) : Kz := exec Tryz.prog (rn k) k 46 c ⟨n, x, retK Tryz.prog F4.rs⟩
noncomputable def F4.p0 (k : Nat) (x0 x1 : AV) (s : Store) : Rz :=
  aConvInt .i64 x0 fun v1 => aBin .add (AV.int .i64 1048577) v1 fun v2 => aMakeSlice [AV.int .u8 0] 1 1 v2 v2 s fun v3 s4 => (rn k 9 [(AV.int .i64 2), v3] s4).bind fun q5 => aExtract 0 q5.1 fun v6 => aExtract 1 q5.1 fun v7 => aNew [AV.int .i64 0, AV.int .i64 0, AV.int .i64 0, AV.int .i64 0, AV.int .i64 0, AV.int .i64 0, AV.int .i64 0, AV.int .i64 0, AV.int .i64 0, AV.int .i64 0, AV.int .i64 0, AV.int .i64 0, AV.int .i64 0, AV.int .i64 0, AV.int .i64 0, AV.int .i64 0, AV.nilsl] q5.2 fun v8 s9 => aStore 17 v8 v6 s9 fun s10 => aBin .neq v7 (AV.int .i64 1) fun v11 => (aGuard v11 false (aFieldAddr 16 v8 fun v13 => some (v13, s10)) (some (AV.tuple [], s10))).bind fun g12 => (aGuard v11 false (aLoad1 g12.1 g12.2 fun v15 => some (v15, g12.2)) (some (AV.tuple [], g12.2))).bind fun g14 => (aGuard v11 false (aLen g14.1 fun v17 => some (v17, g14.2)) (some (AV.tuple [], g14.2))).bind fun g16 => (aGuard v11 false (aBin .neq g16.1 (AV.int .i64 0) fun v19 => some (v19, g16.2)) (some (AV.tuple [], g16.2))).bind fun g18 => aPick v11 (AV.bool true) g18.1 fun v20 => aIf v20 (some ((AV.bool false), g18.2)) (aBin .geq x1 (AV.int .i64 1) fun v21 => (aGuard v21 true (some (x1, g18.2)) (some (AV.tuple [], g18.2))).bind fun g22 => (aGuard v21 true (aBin .leq g22.1 (AV.int .i64 64) fun v24 => some (v24, g22.2)) (some (AV.tuple [], g22.2))).bind fun g23 => aPick v21 g23.1 (AV.bool false) fun v25 => aIf v25 ((rn k 7 [] g23.2).bind fun q26 => some (q26.1, q26.2)) ((rn k 9 [x1, AV.nilsl] g23.2).bind fun q27 => aExtract 0 q27.1 fun v28 => aExtract 1 q27.1 fun v29 => aStore 17 v8 v28 q27.2 fun s30 => aBin .eql v29 (AV.int .i64 1) fun v31 => (aGuard v31 true (aFieldAddr 16 v8 fun v33 => some (v33, s30)) (some (AV.tuple [], s30))).bind fun g32 => (aGuard v31 true (aLoad1 g32.1 g32.2 fun v35 => some (v35, g32.2)) (some (AV.tuple [], g32.2))).bind fun g34 => (aGuard v31 true (aLen g34.1 fun v37 => some (v37, g34.2)) (some (AV.tuple [], g34.2))).bind fun g36 => (aGuard v31 true (aBin .eql g36.1 (AV.int .i64 0) fun v39 => some (v39, g36.2)) (some (AV.tuple [], g36.2))).bind fun g38 => aPick v31 g38.1 (AV.bool false) fun v40 => (aGuard v40 true ((rn k 7 [] g38.2).bind fun q42 => some (q42.1, q42.2)) (some (AV.tuple [], g38.2))).bind fun g41 => aPick v40 g41.1 (AV.bool false) fun v43 => some (v43, g41.2)))
noncomputable abbrev F4.q0 (k : Nat) : Kz := fun fr s => F4.p0 k (fr 0) (fr 1) s
theorem F4.e0 (k : Nat) : F4.X k F4.code (retK Tryz.prog F4.rs) xN = (F4.q0 k) := lE
noncomputable def F4.f (k : Nat) (a0 a1 : AV) (s : Store) : Rz := F4.p0 k a0 a1 s
theorem F4.eq (k : Nat) (a0 a1 : AV) (s : Store) : rn (k + 1) 4 [a0, a1] s = F4.f k a0 a1 s :=
  (rn_eq Tryz.func4 (by kernel_rfl) (by kernel_rfl) (by kernel_rfl) k s (by kernel_rfl)).trans (congrFun (congrFun (F4.e0 k) (frOf [a0, a1])) s)
end Go.Proofs.YtjbgdpfkmcibbaaGreatDoor.Sim
