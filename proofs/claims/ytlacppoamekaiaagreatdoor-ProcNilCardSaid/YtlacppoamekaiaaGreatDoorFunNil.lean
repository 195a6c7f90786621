/- What the translated functions' runs on the abstract machine come to, by the session's program. No condition. -/
import Derived.Test.YtlacppoamekaiaaGreatDoorProg
import Derived.Test.YtlacppoamekaiaaGreatDoorSimR
import Derived.Test.YtlacppoamekaiaaGreatDoorSpRn
import Derived.KernelRfl
namespace Go.Proofs.YtlacppoamekaiaaGreatDoor.Sim
set_option linter.unusedVariables false
set_option maxRecDepth 100000
/-! unison/unisonref15.Same: function 62 -/
noncomputable def F62.code : Code := bodyOf Tryz.f62
noncomputable def F62.rs : List ResultVar := Tryz.f62.results.toList
noncomputable abbrev F62.X (k : Nat) (c : Code) (n : Kz) (x : Nat → Kz) : Kz := exec Tryz.prog (rn k) k 26 c ⟨n, x, retK Tryz.prog F62.rs⟩
noncomputable abbrev F62.c0 : Code := cR F62.code
noncomputable abbrev F62.c1 : Code := cR F62.c0
noncomputable abbrev F62.c2 : Code := cR F62.c1
noncomputable def F62.p0 (k : Nat) (s : Store) : Rz :=
  some ((AV.bool true), s)
noncomputable abbrev F62.q0 (k : Nat) : Kz := fun fr s => F62.p0 k s
theorem F62.e0 (k : Nat) : F62.X k F62.c2 (retK Tryz.prog F62.rs) xN = (F62.q0 k) := lE
noncomputable abbrev F62.c3 : Code := cL F62.c1
noncomputable abbrev F62.c4 : Code := cR F62.c3
noncomputable abbrev F62.x0 (k : Nat) : Nat → Kz := xB 0 (F62.q0 k) xN
noncomputable abbrev F62.c5 : Code := cB F62.c4
noncomputable abbrev F62.c6 : Code := cB F62.c5
noncomputable abbrev F62.c7 : Code := cR F62.c6
noncomputable abbrev F62.c8 : Code := cR F62.c7
noncomputable abbrev F62.c9 : Code := cR F62.c8
noncomputable def F62.p1 (k : Nat) (R0 : Ar4) (x0 x1 x12 x13 : AV) (s : Store) : Rz :=
  aBin .add x13 (AV.int .i64 1) fun v1 => R0 x0 x1 x12 v1 s
noncomputable abbrev F62.q1 (k : Nat) (R0 : Ar4) : Kz := fun fr s => F62.p1 k R0 (fr 0) (fr 1) (fr 12) (fr 13) s
theorem F62.e1 (k : Nat) (R0 : Ar4) : F62.X k F62.c9 (fun fr s => R0 (fr 0) (fr 1) (fr 12) (fr 13) s) (F62.x0 k) = (F62.q1 k R0) := lE
noncomputable abbrev F62.c10 : Code := cL F62.c8
noncomputable abbrev F62.x1 (k : Nat) (R0 : Ar4) : Nat → Kz := xB 1 (F62.q1 k R0) (F62.x0 k)
noncomputable abbrev F62.c11 : Code := cB F62.c10
noncomputable abbrev F62.c12 : Code := cR F62.c11
noncomputable abbrev F62.c13 : Code := cR F62.c12
noncomputable def F62.p2 (k : Nat) (R0 : Ar4) (x0 x1 x12 x13 x24 : AV) (s : Store) : Rz :=
  aIf x24 (some ((AV.bool false), s)) (F62.p1 k R0 x0 x1 x12 x13 s)
noncomputable abbrev F62.q2 (k : Nat) (R0 : Ar4) : Kz := fun fr s => F62.p2 k R0 (fr 0) (fr 1) (fr 12) (fr 13) (fr 24) s
theorem F62.e2 (k : Nat) (R0 : Ar4) : F62.X k F62.c13 (F62.q1 k R0) (F62.x1 k R0) = (F62.q2 k R0) := lE
noncomputable abbrev F62.c14 : Code := cL F62.c12
noncomputable def F62.p3 (k : Nat) (R0 : Ar4) (x0 x1 x5 x12 x13 : AV) (s : Store) : Rz :=
  (some (x0, s)).bind fun q1 => (some (x5, q1.2)).bind fun q2 => (aIndexSl 1 q1.1 q2.1 fun v4 => some (v4, q2.2)).bind fun q3 => (aLoad1 q3.1 q3.2 fun v6 => some (v6, q3.2)).bind fun q5 => (some (x1, q5.2)).bind fun q7 => (some (x5, q7.2)).bind fun q8 => (aIndexSl 1 q7.1 q8.1 fun v10 => some (v10, q8.2)).bind fun q9 => (aLoad1 q9.1 q9.2 fun v12 => some (v12, q9.2)).bind fun q11 => (aBin .neq q5.1 q11.1 fun v14 => some (v14, q11.2)).bind fun q13 => F62.p2 k R0 x0 x1 x12 x13 q13.1 q13.2
noncomputable abbrev F62.q3 (k : Nat) (R0 : Ar4) : Kz := fun fr s => F62.p3 k R0 (fr 0) (fr 1) (fr 5) (fr 12) (fr 13) s
theorem F62.e3 (k : Nat) (R0 : Ar4) : F62.X k F62.c14 (F62.q2 k R0) (F62.x1 k R0) = (F62.q3 k R0) := drawE [0, 0, 3, 7, 0, 0, 48, 112, 255]
theorem F62.e4 (k : Nat) (R0 : Ar4) : F62.X k F62.c12 (F62.q1 k R0) (F62.x1 k R0) = (F62.q3 k R0) := seqE (F62.e2 k R0) (F62.e3 k R0)
noncomputable abbrev F62.c15 : Code := cL F62.c11
noncomputable def F62.p4 (k : Nat) (R0 : Ar4) (x0 x1 x12 x13 : AV) (s : Store) : Rz :=
  F62.p3 k R0 x0 x1 x13 x12 x13 s
noncomputable abbrev F62.q4 (k : Nat) (R0 : Ar4) : Kz := fun fr s => F62.p4 k R0 (fr 0) (fr 1) (fr 12) (fr 13) s
theorem F62.e5 (k : Nat) (R0 : Ar4) : F62.X k F62.c15 (F62.q3 k R0) (F62.x1 k R0) = (F62.q4 k R0) := lE
theorem F62.e6 (k : Nat) (R0 : Ar4) : F62.X k F62.c11 (F62.q1 k R0) (F62.x1 k R0) = (F62.q4 k R0) := seqE (F62.e4 k R0) (F62.e5 k R0)
theorem F62.e7 (k : Nat) (R0 : Ar4) : F62.X k F62.c10 (F62.q1 k R0) (F62.x0 k) = (F62.q4 k R0) := blockE (i := 1) (F62.e6 k R0)
theorem F62.e8 (k : Nat) (R0 : Ar4) : F62.X k F62.c8 (fun fr s => R0 (fr 0) (fr 1) (fr 12) (fr 13) s) (F62.x0 k) = (F62.q4 k R0) := seqE (F62.e1 k R0) (F62.e7 k R0)
noncomputable abbrev F62.c16 : Code := cL F62.c7
noncomputable def F62.p5 (k : Nat) (R0 : Ar4) (x0 x1 x12 x13 x14 : AV) (s : Store) : Rz :=
  aIf x14 (F62.p4 k R0 x0 x1 x12 x13 s) (F62.p0 k s)
noncomputable abbrev F62.q5 (k : Nat) (R0 : Ar4) : Kz := fun fr s => F62.p5 k R0 (fr 0) (fr 1) (fr 12) (fr 13) (fr 14) s
theorem F62.e9 (k : Nat) (R0 : Ar4) : F62.X k F62.c16 (F62.q4 k R0) (F62.x0 k) = (F62.q5 k R0) := lE
theorem F62.e10 (k : Nat) (R0 : Ar4) : F62.X k F62.c7 (fun fr s => R0 (fr 0) (fr 1) (fr 12) (fr 13) s) (F62.x0 k) = (F62.q5 k R0) := seqE (F62.e8 k R0) (F62.e9 k R0)
noncomputable abbrev F62.c17 : Code := cL F62.c6
noncomputable def F62.p6 (k : Nat) (R0 : Ar4) (x0 x1 x12 x13 : AV) (s : Store) : Rz :=
  aBin .lss x13 x12 fun v1 => F62.p5 k R0 x0 x1 x12 x13 v1 s
noncomputable abbrev F62.q6 (k : Nat) (R0 : Ar4) : Kz := fun fr s => F62.p6 k R0 (fr 0) (fr 1) (fr 12) (fr 13) s
theorem F62.e11 (k : Nat) (R0 : Ar4) : F62.X k F62.c17 (F62.q5 k R0) (F62.x0 k) = (F62.q6 k R0) := lE
theorem F62.e12 (k : Nat) (R0 : Ar4) : F62.X k F62.c6 (fun fr s => R0 (fr 0) (fr 1) (fr 12) (fr 13) s) (F62.x0 k) = (F62.q6 k R0) := seqE (F62.e10 k R0) (F62.e11 k R0)
noncomputable def F62.l0 (k : Nat) : Nat → Ar4 := iterF (fun _ _ _ _ _ => none) (fun R0 x0 x1 x12 x13 s => F62.p6 k R0 x0 x1 x12 x13 s)
theorem F62.e13 (k : Nat) : F62.X k F62.c5 (F62.q0 k) (F62.x0 k) = (fun fr s => F62.l0 k k (fr 0) (fr 1) (fr 12) (fr 13) s) := loopE (fun R0 : Ar4 => (fun fr s => R0 (fr 0) (fr 1) (fr 12) (fr 13) s)) (z := (fun _ _ _ _ _ => none)) (B := (fun R0 x0 x1 x12 x13 s => F62.p6 k R0 x0 x1 x12 x13 s)) rfl (fun R0 => F62.e12 k R0)
theorem F62.e14 (k : Nat) : F62.X k F62.c4 (F62.q0 k) xN = (fun fr s => F62.l0 k k (fr 0) (fr 1) (fr 12) (fr 13) s) := blockE (i := 0) (F62.e13 k)
noncomputable abbrev F62.c18 : Code := cL F62.c3
noncomputable def F62.p7 (k : Nat) (x0 x1 : AV) (s : Store) : Rz :=
  aLen x0 fun v1 => F62.l0 k k x0 x1 v1 (AV.int .i64 0) s
noncomputable abbrev F62.q7 (k : Nat) : Kz := fun fr s => F62.p7 k (fr 0) (fr 1) s
theorem F62.e15 (k : Nat) : F62.X k F62.c18 (fun fr s => F62.l0 k k (fr 0) (fr 1) (fr 12) (fr 13) s) xN = (F62.q7 k) := lE
theorem F62.e16 (k : Nat) : F62.X k F62.c3 (F62.q0 k) xN = (F62.q7 k) := seqE (F62.e14 k) (F62.e15 k)
theorem F62.e17 (k : Nat) : F62.X k F62.c1 (retK Tryz.prog F62.rs) xN = (F62.q7 k) := seqE (F62.e0 k) (F62.e16 k)
noncomputable abbrev F62.c19 : Code := cL F62.c0
noncomputable def F62.p8 (k : Nat) (x0 x1 : AV) (s : Store) : Rz :=
  aLen x0 fun v1 => aLen x1 fun v2 => aBin .neq v1 v2 fun v3 => aIf v3 (some ((AV.bool false), s)) (F62.p7 k x0 x1 s)
noncomputable abbrev F62.q8 (k : Nat) : Kz := fun fr s => F62.p8 k (fr 0) (fr 1) s
theorem F62.e18 (k : Nat) : F62.X k F62.c19 (F62.q7 k) xN = (F62.q8 k) := lE
theorem F62.e19 (k : Nat) : F62.X k F62.c0 (retK Tryz.prog F62.rs) xN = (F62.q8 k) := seqE (F62.e17 k) (F62.e18 k)
noncomputable abbrev F62.c20 : Code := cL F62.code
noncomputable def F62.p9 (k : Nat) (x0 x1 : AV) (s : Store) : Rz :=
  F62.p8 k x0 x1 s
noncomputable abbrev F62.q9 (k : Nat) : Kz := fun fr s => F62.p9 k (fr 0) (fr 1) s
theorem F62.e20 (k : Nat) : F62.X k F62.c20 (F62.q8 k) xN = (F62.q9 k) := lE
theorem F62.e21 (k : Nat) : F62.X k F62.code (retK Tryz.prog F62.rs) xN = (F62.q9 k) := seqE (F62.e19 k) (F62.e20 k)
noncomputable def F62.f (k : Nat) (a0 a1 : AV) (s : Store) : Rz := F62.p9 k a0 a1 s
theorem F62.eq (k : Nat) (a0 a1 : AV) (s : Store) : rn (k + 1) 62 [a0, a1] s = F62.f k a0 a1 s :=
  (rn_eq Tryz.func62 (by kernel_rfl) (by kernel_rfl) (by kernel_rfl) k s (by kernel_rfl)).trans (congrFun (congrFun (F62.e21 k) (frOf [a0, a1])) s)

/-! unison/unisonref04.At: function 278 -/
noncomputable def F278.code : Code := bodyOf Tryz.f278
noncomputable def F278.rs : List ResultVar := Tryz.f278.results.toList
noncomputable abbrev F278.X (k : Nat) (c : Code) (n : Kz) (x : Nat → Kz) : Kz := exec Tryz.prog (rn k) k 17 c ⟨n, x, retK Tryz.prog F278.rs⟩
noncomputable def F278.p0 (k : Nat) (x0 x1 : AV) (s : Store) : Rz :=
  aBin .geq x1 (AV.int .i64 0) fun v1 => (aGuard v1 true (some (x1, s)) (some (AV.tuple [], s))).bind fun g2 => (aGuard v1 true (some (x0, g2.2)) (some (AV.tuple [], g2.2))).bind fun g3 => (aGuard v1 true (aLen g3.1 fun v5 => some (v5, g3.2)) (some (AV.tuple [], g3.2))).bind fun g4 => (aGuard v1 true (aBin .lss g2.1 g4.1 fun v7 => some (v7, g4.2)) (some (AV.tuple [], g4.2))).bind fun g6 => aPick v1 g6.1 (AV.bool false) fun v8 => aIf v8 (aIndexSl 1 x0 x1 fun v9 => aLoad1 v9 g6.2 fun v10 => some (v10, g6.2)) (some ((AV.int .u64 0), g6.2))
noncomputable abbrev F278.q0 (k : Nat) : Kz := fun fr s => F278.p0 k (fr 0) (fr 1) s
theorem F278.e0 (k : Nat) : F278.X k F278.code (retK Tryz.prog F278.rs) xN = (F278.q0 k) := lE
noncomputable def F278.f (k : Nat) (a0 a1 : AV) (s : Store) : Rz := F278.p0 k a0 a1 s
theorem F278.eq (k : Nat) (a0 a1 : AV) (s : Store) : rn (k + 1) 278 [a0, a1] s = F278.f k a0 a1 s :=
  (rn_eq Tryz.func278 (by kernel_rfl) (by kernel_rfl) (by kernel_rfl) k s (by kernel_rfl)).trans (congrFun (congrFun (F278.e0 k) (frOf [a0, a1])) s)

/-! unison/unisonref04.Covers: function 233 -/
noncomputable def F233.code : Code := bodyOf Tryz.f233
noncomputable def F233.rs : List ResultVar := Tryz.f233.results.toList
noncomputable abbrev F233.X (k : Nat) (c : Code) (n : Kz) (x : Nat → Kz) : Kz := exec Tryz.prog (rn k) k 20 c ⟨n, x, retK Tryz.prog F233.rs⟩
noncomputable abbrev F233.c0 : Code := cR F233.code
noncomputable abbrev F233.c1 : Code := cR F233.c0
noncomputable def F233.p0 (k : Nat) (s : Store) : Rz :=
  some ((AV.bool true), s)
noncomputable abbrev F233.q0 (k : Nat) : Kz := fun fr s => F233.p0 k s
theorem F233.e0 (k : Nat) : F233.X k F233.c1 (retK Tryz.prog F233.rs) xN = (F233.q0 k) := lE
noncomputable abbrev F233.c2 : Code := cL F233.c0
noncomputable abbrev F233.c3 : Code := cR F233.c2
noncomputable abbrev F233.x0 (k : Nat) : Nat → Kz := xB 0 (F233.q0 k) xN
noncomputable abbrev F233.c4 : Code := cB F233.c3
noncomputable abbrev F233.c5 : Code := cB F233.c4
noncomputable abbrev F233.c6 : Code := cR F233.c5
noncomputable abbrev F233.c7 : Code := cR F233.c6
noncomputable abbrev F233.c8 : Code := cR F233.c7
noncomputable def F233.p1 (k : Nat) (R0 : Ar4) (x0 x1 x7 x8 : AV) (s : Store) : Rz :=
  aBin .add x8 (AV.int .i64 1) fun v1 => R0 x0 x1 x7 v1 s
noncomputable abbrev F233.q1 (k : Nat) (R0 : Ar4) : Kz := fun fr s => F233.p1 k R0 (fr 0) (fr 1) (fr 7) (fr 8) s
theorem F233.e1 (k : Nat) (R0 : Ar4) : F233.X k F233.c8 (fun fr s => R0 (fr 0) (fr 1) (fr 7) (fr 8) s) (F233.x0 k) = (F233.q1 k R0) := lE
noncomputable abbrev F233.c9 : Code := cL F233.c7
noncomputable abbrev F233.x1 (k : Nat) (R0 : Ar4) : Nat → Kz := xB 1 (F233.q1 k R0) (F233.x0 k)
noncomputable abbrev F233.c10 : Code := cB F233.c9
noncomputable abbrev F233.c11 : Code := cR F233.c10
noncomputable abbrev F233.c12 : Code := cR F233.c11
noncomputable def F233.p2 (k : Nat) (R0 : Ar4) (x0 x1 x7 x8 x18 : AV) (s : Store) : Rz :=
  aIf x18 (some ((AV.bool false), s)) (F233.p1 k R0 x0 x1 x7 x8 s)
noncomputable abbrev F233.q2 (k : Nat) (R0 : Ar4) : Kz := fun fr s => F233.p2 k R0 (fr 0) (fr 1) (fr 7) (fr 8) (fr 18) s
theorem F233.e2 (k : Nat) (R0 : Ar4) : F233.X k F233.c12 (F233.q1 k R0) (F233.x1 k R0) = (F233.q2 k R0) := lE
noncomputable abbrev F233.c13 : Code := cL F233.c11
noncomputable def F233.p3 (k : Nat) (R0 : Ar4) (x0 x1 x5 x7 x8 : AV) (s : Store) : Rz :=
  (some (x0, s)).bind fun q1 => (some (x5, q1.2)).bind fun q2 => ((rn k 278 [q1.1, q2.1] q2.2).bind fun q4 => some (q4.1, q4.2)).bind fun q3 => (some (x1, q3.2)).bind fun q5 => (some (x5, q5.2)).bind fun q6 => (aIndexSl 1 q5.1 q6.1 fun v8 => some (v8, q6.2)).bind fun q7 => (aLoad1 q7.1 q7.2 fun v10 => some (v10, q7.2)).bind fun q9 => (aLoad1 q7.1 q2.2 fun v11 => some (v11, q2.2)).bind fun z12 => aSame z12.1 q9.1 <| (aBin .lss q3.1 q9.1 fun v14 => some (v14, q9.2)).bind fun q13 => F233.p2 k R0 x0 x1 x7 x8 q13.1 q13.2
noncomputable abbrev F233.q3 (k : Nat) (R0 : Ar4) : Kz := fun fr s => F233.p3 k R0 (fr 0) (fr 1) (fr 5) (fr 7) (fr 8) s
theorem F233.e3 (k : Nat) (R0 : Ar4) : F233.X k F233.c13 (F233.q2 k R0) (F233.x1 k R0) = (F233.q3 k R0) := drawE [0, 0, 3, 0, 0, 24, 56, 127]
theorem F233.e4 (k : Nat) (R0 : Ar4) : F233.X k F233.c11 (F233.q1 k R0) (F233.x1 k R0) = (F233.q3 k R0) := seqE (F233.e2 k R0) (F233.e3 k R0)
noncomputable abbrev F233.c14 : Code := cL F233.c10
noncomputable def F233.p4 (k : Nat) (R0 : Ar4) (x0 x1 x7 x8 : AV) (s : Store) : Rz :=
  F233.p3 k R0 x0 x1 x8 x7 x8 s
noncomputable abbrev F233.q4 (k : Nat) (R0 : Ar4) : Kz := fun fr s => F233.p4 k R0 (fr 0) (fr 1) (fr 7) (fr 8) s
theorem F233.e5 (k : Nat) (R0 : Ar4) : F233.X k F233.c14 (F233.q3 k R0) (F233.x1 k R0) = (F233.q4 k R0) := lE
theorem F233.e6 (k : Nat) (R0 : Ar4) : F233.X k F233.c10 (F233.q1 k R0) (F233.x1 k R0) = (F233.q4 k R0) := seqE (F233.e4 k R0) (F233.e5 k R0)
theorem F233.e7 (k : Nat) (R0 : Ar4) : F233.X k F233.c9 (F233.q1 k R0) (F233.x0 k) = (F233.q4 k R0) := blockE (i := 1) (F233.e6 k R0)
theorem F233.e8 (k : Nat) (R0 : Ar4) : F233.X k F233.c7 (fun fr s => R0 (fr 0) (fr 1) (fr 7) (fr 8) s) (F233.x0 k) = (F233.q4 k R0) := seqE (F233.e1 k R0) (F233.e7 k R0)
noncomputable abbrev F233.c15 : Code := cL F233.c6
noncomputable def F233.p5 (k : Nat) (R0 : Ar4) (x0 x1 x7 x8 x9 : AV) (s : Store) : Rz :=
  aIf x9 (F233.p4 k R0 x0 x1 x7 x8 s) (F233.p0 k s)
noncomputable abbrev F233.q5 (k : Nat) (R0 : Ar4) : Kz := fun fr s => F233.p5 k R0 (fr 0) (fr 1) (fr 7) (fr 8) (fr 9) s
theorem F233.e9 (k : Nat) (R0 : Ar4) : F233.X k F233.c15 (F233.q4 k R0) (F233.x0 k) = (F233.q5 k R0) := lE
theorem F233.e10 (k : Nat) (R0 : Ar4) : F233.X k F233.c6 (fun fr s => R0 (fr 0) (fr 1) (fr 7) (fr 8) s) (F233.x0 k) = (F233.q5 k R0) := seqE (F233.e8 k R0) (F233.e9 k R0)
noncomputable abbrev F233.c16 : Code := cL F233.c5
noncomputable def F233.p6 (k : Nat) (R0 : Ar4) (x0 x1 x7 x8 : AV) (s : Store) : Rz :=
  aBin .lss x8 x7 fun v1 => F233.p5 k R0 x0 x1 x7 x8 v1 s
noncomputable abbrev F233.q6 (k : Nat) (R0 : Ar4) : Kz := fun fr s => F233.p6 k R0 (fr 0) (fr 1) (fr 7) (fr 8) s
theorem F233.e11 (k : Nat) (R0 : Ar4) : F233.X k F233.c16 (F233.q5 k R0) (F233.x0 k) = (F233.q6 k R0) := lE
theorem F233.e12 (k : Nat) (R0 : Ar4) : F233.X k F233.c5 (fun fr s => R0 (fr 0) (fr 1) (fr 7) (fr 8) s) (F233.x0 k) = (F233.q6 k R0) := seqE (F233.e10 k R0) (F233.e11 k R0)
noncomputable def F233.l0 (k : Nat) : Nat → Ar4 := iterF (fun _ _ _ _ _ => none) (fun R0 x0 x1 x7 x8 s => F233.p6 k R0 x0 x1 x7 x8 s)
theorem F233.e13 (k : Nat) : F233.X k F233.c4 (F233.q0 k) (F233.x0 k) = (fun fr s => F233.l0 k k (fr 0) (fr 1) (fr 7) (fr 8) s) := loopE (fun R0 : Ar4 => (fun fr s => R0 (fr 0) (fr 1) (fr 7) (fr 8) s)) (z := (fun _ _ _ _ _ => none)) (B := (fun R0 x0 x1 x7 x8 s => F233.p6 k R0 x0 x1 x7 x8 s)) rfl (fun R0 => F233.e12 k R0)
theorem F233.e14 (k : Nat) : F233.X k F233.c3 (F233.q0 k) xN = (fun fr s => F233.l0 k k (fr 0) (fr 1) (fr 7) (fr 8) s) := blockE (i := 0) (F233.e13 k)
noncomputable abbrev F233.c17 : Code := cL F233.c2
noncomputable def F233.p7 (k : Nat) (x0 x1 : AV) (s : Store) : Rz :=
  aLen x1 fun v1 => F233.l0 k k x0 x1 v1 (AV.int .i64 0) s
noncomputable abbrev F233.q7 (k : Nat) : Kz := fun fr s => F233.p7 k (fr 0) (fr 1) s
theorem F233.e15 (k : Nat) : F233.X k F233.c17 (fun fr s => F233.l0 k k (fr 0) (fr 1) (fr 7) (fr 8) s) xN = (F233.q7 k) := lE
theorem F233.e16 (k : Nat) : F233.X k F233.c2 (F233.q0 k) xN = (F233.q7 k) := seqE (F233.e14 k) (F233.e15 k)
theorem F233.e17 (k : Nat) : F233.X k F233.c0 (retK Tryz.prog F233.rs) xN = (F233.q7 k) := seqE (F233.e0 k) (F233.e16 k)
noncomputable abbrev F233.c18 : Code := cL F233.code
noncomputable def F233.p8 (k : Nat) (x0 x1 : AV) (s : Store) : Rz :=
  F233.p7 k x0 x1 s
noncomputable abbrev F233.q8 (k : Nat) : Kz := fun fr s => F233.p8 k (fr 0) (fr 1) s
theorem F233.e18 (k : Nat) : F233.X k F233.c18 (F233.q7 k) xN = (F233.q8 k) := lE
theorem F233.e19 (k : Nat) : F233.X k F233.code (retK Tryz.prog F233.rs) xN = (F233.q8 k) := seqE (F233.e17 k) (F233.e18 k)
noncomputable def F233.f (k : Nat) (a0 a1 : AV) (s : Store) : Rz := F233.p8 k a0 a1 s
theorem F233.eq (k : Nat) (a0 a1 : AV) (s : Store) : rn (k + 1) 233 [a0, a1] s = F233.f k a0 a1 s :=
  (rn_eq Tryz.func233 (by kernel_rfl) (by kernel_rfl) (by kernel_rfl) k s (by kernel_rfl)).trans (congrFun (congrFun (F233.e19 k) (frOf [a0, a1])) s)

/-! unison/unisonref04.Same: function 154 -/
noncomputable def F154.code : Code := bodyOf Tryz.f154
noncomputable def F154.rs : List ResultVar := Tryz.f154.results.toList
noncomputable abbrev F154.X (k : Nat) (c : Code) (n : Kz) (x : Nat → Kz) : Kz := exec Tryz.prog (rn k) k 13 c ⟨n, x, retK Tryz.prog F154.rs⟩
noncomputable def F154.p0 (k : Nat) (x0 x1 : AV) (s : Store) : Rz :=
  (rn k 233 [x0, x1] s).bind fun q1 => (aGuard q1.1 true (some (x1, q1.2)) (some (AV.tuple [], q1.2))).bind fun g2 => (aGuard q1.1 true (some (x0, g2.2)) (some (AV.tuple [], g2.2))).bind fun g3 => (aGuard q1.1 true ((rn k 233 [g2.1, g3.1] g3.2).bind fun q5 => some (q5.1, q5.2)) (some (AV.tuple [], g3.2))).bind fun g4 => aPick q1.1 g4.1 (AV.bool false) fun v6 => some (v6, g4.2)
noncomputable abbrev F154.q0 (k : Nat) : Kz := fun fr s => F154.p0 k (fr 0) (fr 1) s
theorem F154.e0 (k : Nat) : F154.X k F154.code (retK Tryz.prog F154.rs) xN = (F154.q0 k) := lE
noncomputable def F154.f (k : Nat) (a0 a1 : AV) (s : Store) : Rz := F154.p0 k a0 a1 s
theorem F154.eq (k : Nat) (a0 a1 : AV) (s : Store) : rn (k + 1) 154 [a0, a1] s = F154.f k a0 a1 s :=
  (rn_eq Tryz.func154 (by kernel_rfl) (by kernel_rfl) (by kernel_rfl) k s (by kernel_rfl)).trans (congrFun (congrFun (F154.e0 k) (frOf [a0, a1])) s)

/-! unison/unisonref04.Equal: function 63 -/
noncomputable def F63.code : Code := bodyOf Tryz.f63
noncomputable def F63.rs : List ResultVar := Tryz.f63.results.toList
noncomputable abbrev F63.X (k : Nat) (c : Code) (n : Kz) (x : Nat → Kz) : Kz := exec Tryz.prog (rn k) k 15 c ⟨n, x, retK Tryz.prog F63.rs⟩
noncomputable def F63.p0 (k : Nat) (x0 x1 : AV) (s : Store) : Rz :=
  aLen x0 fun v1 => aLen x1 fun v2 => aBin .eql v1 v2 fun v3 => (aGuard v3 true (some (x0, s)) (some (AV.tuple [], s))).bind fun g4 => (aGuard v3 true (some (x1, g4.2)) (some (AV.tuple [], g4.2))).bind fun g5 => (aGuard v3 true ((rn k 154 [g4.1, g5.1] g5.2).bind fun q7 => some (q7.1, q7.2)) (some (AV.tuple [], g5.2))).bind fun g6 => aPick v3 g6.1 (AV.bool false) fun v8 => some (v8, g6.2)
noncomputable abbrev F63.q0 (k : Nat) : Kz := fun fr s => F63.p0 k (fr 0) (fr 1) s
theorem F63.e0 (k : Nat) : F63.X k F63.code (retK Tryz.prog F63.rs) xN = (F63.q0 k) := lE
noncomputable def F63.f (k : Nat) (a0 a1 : AV) (s : Store) : Rz := F63.p0 k a0 a1 s
theorem F63.eq (k : Nat) (a0 a1 : AV) (s : Store) : rn (k + 1) 63 [a0, a1] s = F63.f k a0 a1 s :=
  (rn_eq Tryz.func63 (by kernel_rfl) (by kernel_rfl) (by kernel_rfl) k s (by kernel_rfl)).trans (congrFun (congrFun (F63.e0 k) (frOf [a0, a1])) s)

/-! unison/unisonref24.Same: function 18 -/
noncomputable def F18.code : Code := bodyOf Tryz.f18
noncomputable def F18.rs : List ResultVar := Tryz.f18.results.toList
noncomputable abbrev F18.X (k : Nat) (c : Code) (n : Kz) (x : Nat → Kz) : Kz := exec Tryz.prog (rn k) k 119 c ⟨n, x, retK Tryz.prog F18.rs⟩
noncomputable def F18.p0 (k : Nat) (x0 x1 : AV) (s : Store) : Rz :=
  aCells x0 fun c1 => aNew c1 s fun v2 s3 => aCells x1 fun c4 => aNew c4 s3 fun v5 s6 => aFieldAddr 0 v2 fun v7 => aLoad1 v7 s6 fun v8 => aFieldAddr 0 v5 fun v9 => aLoad1 v9 s6 fun v10 => aBin .neq v8 v10 fun v11 => (aGuard v11 false (aFieldAddr 1 v2 fun v13 => some (v13, s6)) (some (AV.tuple [], s6))).bind fun g12 => (aGuard v11 false (aLoad1 g12.1 g12.2 fun v15 => some (v15, g12.2)) (some (AV.tuple [], g12.2))).bind fun g14 => (aGuard v11 false (aFieldAddr 1 v5 fun v17 => some (v17, g14.2)) (some (AV.tuple [], g14.2))).bind fun g16 => (aGuard v11 false (aLoad1 g16.1 g16.2 fun v19 => some (v19, g16.2)) (some (AV.tuple [], g16.2))).bind fun g18 => (aGuard v11 false (aBin .neq g14.1 g18.1 fun v21 => some (v21, g18.2)) (some (AV.tuple [], g18.2))).bind fun g20 => aPick v11 (AV.bool true) g20.1 fun v22 => (aGuard v22 false (aFieldAddr 2 v2 fun v24 => some (v24, g20.2)) (some (AV.tuple [], g20.2))).bind fun g23 => (aGuard v22 false (aLoad1 g23.1 g23.2 fun v26 => some (v26, g23.2)) (some (AV.tuple [], g23.2))).bind fun g25 => (aGuard v22 false (aFieldAddr 2 v5 fun v28 => some (v28, g25.2)) (some (AV.tuple [], g25.2))).bind fun g27 => (aGuard v22 false (aLoad1 g27.1 g27.2 fun v30 => some (v30, g27.2)) (some (AV.tuple [], g27.2))).bind fun g29 => (aGuard v22 false (aBin .neq g25.1 g29.1 fun v32 => some (v32, g29.2)) (some (AV.tuple [], g29.2))).bind fun g31 => aPick v22 (AV.bool true) g31.1 fun v33 => (aGuard v33 false (aFieldAddr 3 v2 fun v35 => some (v35, g31.2)) (some (AV.tuple [], g31.2))).bind fun g34 => (aGuard v33 false (aLoad1 g34.1 g34.2 fun v37 => some (v37, g34.2)) (some (AV.tuple [], g34.2))).bind fun g36 => (aGuard v33 false (aFieldAddr 3 v5 fun v39 => some (v39, g36.2)) (some (AV.tuple [], g36.2))).bind fun g38 => (aGuard v33 false (aLoad1 g38.1 g38.2 fun v41 => some (v41, g38.2)) (some (AV.tuple [], g38.2))).bind fun g40 => (aGuard v33 false (aBin .neq g36.1 g40.1 fun v43 => some (v43, g40.2)) (some (AV.tuple [], g40.2))).bind fun g42 => aPick v33 (AV.bool true) g42.1 fun v44 => (aGuard v44 false (aFieldAddr 4 v2 fun v46 => some (v46, g42.2)) (some (AV.tuple [], g42.2))).bind fun g45 => (aGuard v44 false (aLoad1 g45.1 g45.2 fun v48 => some (v48, g45.2)) (some (AV.tuple [], g45.2))).bind fun g47 => (aGuard v44 false (aFieldAddr 4 v5 fun v50 => some (v50, g47.2)) (some (AV.tuple [], g47.2))).bind fun g49 => (aGuard v44 false (aLoad1 g49.1 g49.2 fun v52 => some (v52, g49.2)) (some (AV.tuple [], g49.2))).bind fun g51 => (aGuard v44 false (aBin .neq g47.1 g51.1 fun v54 => some (v54, g51.2)) (some (AV.tuple [], g51.2))).bind fun g53 => aPick v44 (AV.bool true) g53.1 fun v55 => (aGuard v55 false (aFieldAddr 5 v2 fun v57 => some (v57, g53.2)) (some (AV.tuple [], g53.2))).bind fun g56 => (aGuard v55 false (aLoad1 g56.1 g56.2 fun v59 => some (v59, g56.2)) (some (AV.tuple [], g56.2))).bind fun g58 => (aGuard v55 false (aFieldAddr 5 v5 fun v61 => some (v61, g58.2)) (some (AV.tuple [], g58.2))).bind fun g60 => (aGuard v55 false (aLoad1 g60.1 g60.2 fun v63 => some (v63, g60.2)) (some (AV.tuple [], g60.2))).bind fun g62 => (aGuard v55 false (aBin .neq g58.1 g62.1 fun v65 => some (v65, g62.2)) (some (AV.tuple [], g62.2))).bind fun g64 => aPick v55 (AV.bool true) g64.1 fun v66 => (aGuard v66 false (aFieldAddr 6 v2 fun v68 => some (v68, g64.2)) (some (AV.tuple [], g64.2))).bind fun g67 => (aGuard v66 false (aLoad1 g67.1 g67.2 fun v70 => some (v70, g67.2)) (some (AV.tuple [], g67.2))).bind fun g69 => (aGuard v66 false (aFieldAddr 6 v5 fun v72 => some (v72, g69.2)) (some (AV.tuple [], g69.2))).bind fun g71 => (aGuard v66 false (aLoad1 g71.1 g71.2 fun v74 => some (v74, g71.2)) (some (AV.tuple [], g71.2))).bind fun g73 => (aGuard v66 false (aBin .neq g69.1 g73.1 fun v76 => some (v76, g73.2)) (some (AV.tuple [], g73.2))).bind fun g75 => aPick v66 (AV.bool true) g75.1 fun v77 => (aGuard v77 false (aFieldAddr 7 v2 fun v79 => some (v79, g75.2)) (some (AV.tuple [], g75.2))).bind fun g78 => (aGuard v77 false (aLoad1 g78.1 g78.2 fun v81 => some (v81, g78.2)) (some (AV.tuple [], g78.2))).bind fun g80 => (aGuard v77 false (aFieldAddr 7 v5 fun v83 => some (v83, g80.2)) (some (AV.tuple [], g80.2))).bind fun g82 => (aGuard v77 false (aLoad1 g82.1 g82.2 fun v85 => some (v85, g82.2)) (some (AV.tuple [], g82.2))).bind fun g84 => (aGuard v77 false (aBin .neq g80.1 g84.1 fun v87 => some (v87, g84.2)) (some (AV.tuple [], g84.2))).bind fun g86 => aPick v77 (AV.bool true) g86.1 fun v88 => aIf v88 (some ((AV.bool false), g86.2)) (aFieldAddr 8 v2 fun v89 => aLoad1 v89 g86.2 fun v90 => aFieldAddr 8 v5 fun v91 => aLoad1 v91 g86.2 fun v92 => aBin .neq v90 v92 fun v93 => (aGuard v93 false (aFieldAddr 9 v2 fun v95 => some (v95, g86.2)) (some (AV.tuple [], g86.2))).bind fun g94 => (aGuard v93 false (aLoad1 g94.1 g94.2 fun v97 => some (v97, g94.2)) (some (AV.tuple [], g94.2))).bind fun g96 => (aGuard v93 false (aFieldAddr 9 v5 fun v99 => some (v99, g96.2)) (some (AV.tuple [], g96.2))).bind fun g98 => (aGuard v93 false (aLoad1 g98.1 g98.2 fun v101 => some (v101, g98.2)) (some (AV.tuple [], g98.2))).bind fun g100 => (aGuard v93 false (aBin .neq g96.1 g100.1 fun v103 => some (v103, g100.2)) (some (AV.tuple [], g100.2))).bind fun g102 => aPick v93 (AV.bool true) g102.1 fun v104 => (aGuard v104 false (aFieldAddr 10 v2 fun v106 => some (v106, g102.2)) (some (AV.tuple [], g102.2))).bind fun g105 => (aGuard v104 false (aLoad1 g105.1 g105.2 fun v108 => some (v108, g105.2)) (some (AV.tuple [], g105.2))).bind fun g107 => (aGuard v104 false (aFieldAddr 10 v5 fun v110 => some (v110, g107.2)) (some (AV.tuple [], g107.2))).bind fun g109 => (aGuard v104 false (aLoad1 g109.1 g109.2 fun v112 => some (v112, g109.2)) (some (AV.tuple [], g109.2))).bind fun g111 => (aGuard v104 false (aBin .neq g107.1 g111.1 fun v114 => some (v114, g111.2)) (some (AV.tuple [], g111.2))).bind fun g113 => aPick v104 (AV.bool true) g113.1 fun v115 => (aGuard v115 false (aFieldAddr 11 v2 fun v117 => some (v117, g113.2)) (some (AV.tuple [], g113.2))).bind fun g116 => (aGuard v115 false (aLoad1 g116.1 g116.2 fun v119 => some (v119, g116.2)) (some (AV.tuple [], g116.2))).bind fun g118 => (aGuard v115 false (aFieldAddr 11 v5 fun v121 => some (v121, g118.2)) (some (AV.tuple [], g118.2))).bind fun g120 => (aGuard v115 false (aLoad1 g120.1 g120.2 fun v123 => some (v123, g120.2)) (some (AV.tuple [], g120.2))).bind fun g122 => (aGuard v115 false (aBin .neq g118.1 g122.1 fun v125 => some (v125, g122.2)) (some (AV.tuple [], g122.2))).bind fun g124 => aPick v115 (AV.bool true) g124.1 fun v126 => (aGuard v126 false (aFieldAddr 12 v2 fun v128 => some (v128, g124.2)) (some (AV.tuple [], g124.2))).bind fun g127 => (aGuard v126 false (aLoad1 g127.1 g127.2 fun v130 => some (v130, g127.2)) (some (AV.tuple [], g127.2))).bind fun g129 => (aGuard v126 false (aFieldAddr 12 v5 fun v132 => some (v132, g129.2)) (some (AV.tuple [], g129.2))).bind fun g131 => (aGuard v126 false (aLoad1 g131.1 g131.2 fun v134 => some (v134, g131.2)) (some (AV.tuple [], g131.2))).bind fun g133 => (aGuard v126 false (aBin .neq g129.1 g133.1 fun v136 => some (v136, g133.2)) (some (AV.tuple [], g133.2))).bind fun g135 => aPick v126 (AV.bool true) g135.1 fun v137 => (aGuard v137 false (aFieldAddr 16 v2 fun v139 => some (v139, g135.2)) (some (AV.tuple [], g135.2))).bind fun g138 => (aGuard v137 false (aLoad1 g138.1 g138.2 fun v141 => some (v141, g138.2)) (some (AV.tuple [], g138.2))).bind fun g140 => (aGuard v137 false (aFieldAddr 16 v5 fun v143 => some (v143, g140.2)) (some (AV.tuple [], g140.2))).bind fun g142 => (aGuard v137 false (aLoad1 g142.1 g142.2 fun v145 => some (v145, g142.2)) (some (AV.tuple [], g142.2))).bind fun g144 => (aGuard v137 false ((rn k 62 [g140.1, g144.1] g144.2).bind fun q147 => some (q147.1, q147.2)) (some (AV.tuple [], g144.2))).bind fun g146 => (aGuard v137 false (aUn .not g146.1 fun v149 => some (v149, g146.2)) (some (AV.tuple [], g146.2))).bind fun g148 => aPick v137 (AV.bool true) g148.1 fun v150 => aIf v150 (some ((AV.bool false), g148.2)) (aFieldAddr 13 v2 fun v151 => aLoad1 v151 g148.2 fun v152 => aFieldAddr 13 v5 fun v153 => aLoad1 v153 g148.2 fun v154 => (rn k 63 [v152, v154] g148.2).bind fun q155 => (aGuard q155.1 true (aFieldAddr 14 v2 fun v157 => some (v157, q155.2)) (some (AV.tuple [], q155.2))).bind fun g156 => (aGuard q155.1 true (aLoad1 g156.1 g156.2 fun v159 => some (v159, g156.2)) (some (AV.tuple [], g156.2))).bind fun g158 => (aGuard q155.1 true (aFieldAddr 14 v5 fun v161 => some (v161, g158.2)) (some (AV.tuple [], g158.2))).bind fun g160 => (aGuard q155.1 true (aLoad1 g160.1 g160.2 fun v163 => some (v163, g160.2)) (some (AV.tuple [], g160.2))).bind fun g162 => (aGuard q155.1 true ((rn k 63 [g158.1, g162.1] g162.2).bind fun q165 => some (q165.1, q165.2)) (some (AV.tuple [], g162.2))).bind fun g164 => aPick q155.1 g164.1 (AV.bool false) fun v166 => (aGuard v166 true (aFieldAddr 15 v2 fun v168 => some (v168, g164.2)) (some (AV.tuple [], g164.2))).bind fun g167 => (aGuard v166 true (aLoad1 g167.1 g167.2 fun v170 => some (v170, g167.2)) (some (AV.tuple [], g167.2))).bind fun g169 => (aGuard v166 true (aFieldAddr 15 v5 fun v172 => some (v172, g169.2)) (some (AV.tuple [], g169.2))).bind fun g171 => (aGuard v166 true (aLoad1 g171.1 g171.2 fun v174 => some (v174, g171.2)) (some (AV.tuple [], g171.2))).bind fun g173 => (aGuard v166 true ((rn k 63 [g169.1, g173.1] g173.2).bind fun q176 => some (q176.1, q176.2)) (some (AV.tuple [], g173.2))).bind fun g175 => aPick v166 g175.1 (AV.bool false) fun v177 => some (v177, g175.2)))
noncomputable abbrev F18.q0 (k : Nat) : Kz := fun fr s => F18.p0 k (fr 0) (fr 1) s
theorem F18.e0 (k : Nat) : F18.X k F18.code (retK Tryz.prog F18.rs) xN = (F18.q0 k) := lE
noncomputable def F18.f (k : Nat) (a0 a1 : AV) (s : Store) : Rz := F18.p0 k a0 a1 s
theorem F18.eq (k : Nat) (a0 a1 : AV) (s : Store) : rn (k + 1) 18 [a0, a1] s = F18.f k a0 a1 s :=
  (rn_eq Tryz.func18 (by kernel_rfl) (by kernel_rfl) (by kernel_rfl) k s (by kernel_rfl)).trans (congrFun (congrFun (F18.e0 k) (frOf [a0, a1])) s)

/-! unison/unisonlaw24.ProcNil: function 8 -/
noncomputable def F8.code : Code := bodyOf Tryz.f8
noncomputable def F8.rs : List ResultVar := Tryz.f8.results.toList
noncomputable abbrev F8.X (k : Nat) (c : Code) (n : Kz) (x : Nat → Kz) : Kz := exec Tryz.prog (rn k) k 59 c ⟨n, x, retK Tryz.prog F8.rs⟩
noncomputable def F8.p0 (k : Nat) (x0 x1 : AV) (s : Store) : Rz :=
  aLen x0 fun v1 => aBin .gtr v1 (AV.int .i64 600) fun v2 => aIf v2 ((rn k 11 [] s).bind fun q3 => some (q3.1, q3.2)) ((rn k 15 [AV.nilptr, x0] s).bind fun q4 => aExtract 0 q4.1 fun v5 => aExtract 1 q4.1 fun v6 => aBin .eql v5 (AV.int .u64 0) fun v7 => (aGuard v7 true (some (v6, q4.2)) (some (AV.tuple [], q4.2))).bind fun g8 => (aGuard v7 true (aBin .eql g8.1 (AV.int .i64 1) fun v10 => some (v10, g8.2)) (some (AV.tuple [], g8.2))).bind fun g9 => aPick v7 g9.1 (AV.bool false) fun v11 => (aGuard v11 true (some (AV.nilptr, g9.2)) (some (AV.tuple [], g9.2))).bind fun g12 => (aGuard v11 true (some (x1, g12.2)) (some (AV.tuple [], g12.2))).bind fun g13 => (aGuard v11 true ((rn k 14 [g12.1, g13.1] g13.2).bind fun q15 => some (q15.1, q15.2)) (some (AV.tuple [], g13.2))).bind fun g14 => (aGuard v11 true (aLen g14.1 fun v17 => some (v17, g14.2)) (some (AV.tuple [], g14.2))).bind fun g16 => (aGuard v11 true (aBin .eql g16.1 (AV.int .i64 0) fun v19 => some (v19, g16.2)) (some (AV.tuple [], g16.2))).bind fun g18 => aPick v11 g18.1 (AV.bool false) fun v20 => (aGuard v20 true (some (AV.nilptr, g18.2)) (some (AV.tuple [], g18.2))).bind fun g21 => (aGuard v20 true (some (x0, g21.2)) (some (AV.tuple [], g21.2))).bind fun g22 => (aGuard v20 true ((rn k 25 [g21.1, g22.1] g22.2).bind fun q24 => some (q24.1, q24.2)) (some (AV.tuple [], g22.2))).bind fun g23 => (aGuard v20 true (aBin .eql g23.1 (AV.int .i64 1) fun v26 => some (v26, g23.2)) (some (AV.tuple [], g23.2))).bind fun g25 => aPick v20 g25.1 (AV.bool false) fun v27 => (aGuard v27 true (some (AV.nilptr, g25.2)) (some (AV.tuple [], g25.2))).bind fun g28 => (aGuard v27 true ((rn k 13 [g28.1] g28.2).bind fun q30 => some (q30.1, q30.2)) (some (AV.tuple [], g28.2))).bind fun g29 => (aGuard v27 true (aLen g29.1 fun v32 => some (v32, g29.2)) (some (AV.tuple [], g29.2))).bind fun g31 => (aGuard v27 true (aBin .eql g31.1 (AV.int .i64 0) fun v34 => some (v34, g31.2)) (some (AV.tuple [], g31.2))).bind fun g33 => aPick v27 g33.1 (AV.bool false) fun v35 => (aGuard v35 true (some (AV.nilptr, g33.2)) (some (AV.tuple [], g33.2))).bind fun g36 => (aGuard v35 true (some (x1, g36.2)) (some (AV.tuple [], g36.2))).bind fun g37 => (aGuard v35 true (aBuild [(0, 1, g37.1)] [AV.int .i64 0] fun c39 => some ((AV.sl g37.2.next 0 1 1 1), (g37.2.push (.cells c39 false)))) (some (AV.tuple [], g37.2))).bind fun g38 => (aGuard v35 true ((rn k 26 [g36.1, g38.1] g38.2).bind fun q41 => some (q41.1, q41.2)) (some (AV.tuple [], g38.2))).bind fun g40 => (aGuard v35 true (aBin .eql g40.1 (AV.int .i64 0) fun v43 => some (v43, g40.2)) (some (AV.tuple [], g40.2))).bind fun g42 => aPick v35 g42.1 (AV.bool false) fun v44 => (aGuard v44 true (some (AV.nilptr, g42.2)) (some (AV.tuple [], g42.2))).bind fun g45 => (aGuard v44 true ((rn k 19 [g45.1] g45.2).bind fun q47 => some (q47.1, q47.2)) (some (AV.tuple [], g45.2))).bind fun g46 => (aGuard v44 true (aBuild [] [AV.int .i64 0, AV.int .u64 0, AV.int .u64 0, AV.int .u64 0, AV.int .u64 0, AV.int .u64 0, AV.int .i64 0, AV.int .i64 0, AV.int .i64 0, AV.int .i64 0, AV.int .i64 0, AV.int .i64 0, AV.int .i64 0, AV.nilsl, AV.nilsl, AV.nilsl, AV.nilsl] fun c49 => some ((AV.agg c49), g46.2)) (some (AV.tuple [], g46.2))).bind fun g48 => (aGuard v44 true ((rn k 18 [g46.1, g48.1] g48.2).bind fun q51 => some (q51.1, q51.2)) (some (AV.tuple [], g48.2))).bind fun g50 => aPick v44 g50.1 (AV.bool false) fun v52 => (aGuard v52 true ((rn k 11 [] g50.2).bind fun q54 => some (q54.1, q54.2)) (some (AV.tuple [], g50.2))).bind fun g53 => aPick v52 g53.1 (AV.bool false) fun v55 => some (v55, g53.2))
noncomputable abbrev F8.q0 (k : Nat) : Kz := fun fr s => F8.p0 k (fr 0) (fr 1) s
theorem F8.e0 (k : Nat) : F8.X k F8.code (retK Tryz.prog F8.rs) xN = (F8.q0 k) := lE
noncomputable def F8.f (k : Nat) (a0 a1 : AV) (s : Store) : Rz := F8.p0 k a0 a1 s
theorem F8.eq (k : Nat) (a0 a1 : AV) (s : Store) : rn (k + 1) 8 [a0, a1] s = F8.f k a0 a1 s :=
  (rn_eq Tryz.func8 (by kernel_rfl) (by kernel_rfl) (by kernel_rfl) k s (by kernel_rfl)).trans (congrFun (congrFun (F8.e0 k) (frOf [a0, a1])) s)
end Go.Proofs.YtlacppoamekaiaaGreatDoor.Sim
