/- What the translated functions' runs on the abstract machine come to, by the session's program. No condition. -/
import Derived.Test.YtkfdgegmahbkiaaProg
import Derived.Test.YtkfdgegmahbkiaaSimR
import Derived.Test.YtkfdgegmahbkiaaSpRn
import Derived.KernelRfl
namespace Go.Proofs.Ytkfdgegmahbkiaa.Sim
set_option linter.unusedVariables false
set_option maxRecDepth 100000
/-! unison/crc.foot: function 53 -/
noncomputable def F53.code : Code := bodyOf Try.f53
noncomputable def F53.rs : List ResultVar := Try.f53.results.toList
noncomputable abbrev F53.X (k : Nat) (c : Code) (n : Kz) (x : Nat → Kz) : Kz := exec Try.prog (rn k) k 15 c ⟨n, x, retK Try.prog F53.rs⟩
noncomputable def F53.p0 (k : Nat) (x0 : AV) (s : Store) : Rz :=
  aConvInt .u8 x0 fun v1 => aShift .shr x0 (AV.int .u64 8) fun v2 => aConvInt .u8 v2 fun v3 => aShift .shr x0 (AV.int .u64 16) fun v4 => aConvInt .u8 v4 fun v5 => aShift .shr x0 (AV.int .u64 24) fun v6 => aConvInt .u8 v6 fun v7 => aBuild [(0, 1, v1), (1, 1, v3), (2, 1, v5), (3, 1, v7)] [AV.int .u8 0, AV.int .u8 0, AV.int .u8 0, AV.int .u8 0] fun c8 => some ((AV.sl s.next 0 4 1 4), (s.push (.cells c8 false)))
noncomputable abbrev F53.q0 (k : Nat) : Kz := fun fr s => F53.p0 k (fr 0) s
theorem F53.e0 (k : Nat) : F53.X k F53.code (retK Try.prog F53.rs) xN = (F53.q0 k) := lE
noncomputable def F53.f (k : Nat) (a0 : AV) (s : Store) : Rz := F53.p0 k a0 s
theorem F53.eq (k : Nat) (a0 : AV) (s : Store) : rn (k + 1) 53 [a0] s = F53.f k a0 s :=
  (rn_eq Try.func53 (by kernel_rfl) (by kernel_rfl) (by kernel_rfl) k s (by kernel_rfl)).trans (congrFun (congrFun (F53.e0 k) (frOf [a0])) s)

/-! unison/crc.nibbles: function 63 -/
noncomputable def F63.code : Code := bodyOf Try.f63
noncomputable def F63.rs : List ResultVar := Try.f63.results.toList
noncomputable abbrev F63.X (k : Nat) (c : Code) (n : Kz) (x : Nat → Kz) : Kz := exec Try.prog (rn k) k 24 c ⟨n, x, retK Try.prog F63.rs⟩
noncomputable abbrev F63.c0 : Code := cR F63.code
noncomputable abbrev F63.c1 : Code := cR F63.c0
noncomputable abbrev F63.c2 : Code := cR F63.c1
noncomputable def F63.p0 (k : Nat) (x0 x1 : AV) (s : Store) : Rz :=
  aLoadN 16 x1 s fun v1 => aStore 16 x0 v1 s fun s2 => aLoadN 16 x0 s2 fun v3 => some (v3, s2)
noncomputable abbrev F63.q0 (k : Nat) : Kz := fun fr s => F63.p0 k (fr 0) (fr 1) s
theorem F63.e0 (k : Nat) : F63.X k F63.c2 (retK Try.prog F63.rs) xN = (F63.q0 k) := lE
noncomputable abbrev F63.c3 : Code := cL F63.c1
noncomputable abbrev F63.c4 : Code := cR F63.c3
noncomputable abbrev F63.x0 (k : Nat) : Nat → Kz := xB 0 (F63.q0 k) xN
noncomputable abbrev F63.c5 : Code := cB F63.c4
noncomputable abbrev F63.c6 : Code := cB F63.c5
noncomputable abbrev F63.c7 : Code := cR F63.c6
noncomputable abbrev F63.c8 : Code := cR F63.c7
noncomputable abbrev F63.c9 : Code := cR F63.c8
noncomputable def F63.p1 (k : Nat) (R0 : Ar3) (x0 x1 x4 : AV) (s : Store) : Rz :=
  aBin .add x4 (AV.int .i64 1) fun v1 => R0 x0 x1 v1 s
noncomputable abbrev F63.q1 (k : Nat) (R0 : Ar3) : Kz := fun fr s => F63.p1 k R0 (fr 0) (fr 1) (fr 4) s
theorem F63.e1 (k : Nat) (R0 : Ar3) : F63.X k F63.c9 (fun fr s => R0 (fr 0) (fr 1) (fr 4) s) (F63.x0 k) = (F63.q1 k R0) := lE
noncomputable abbrev F63.c10 : Code := cL F63.c8
noncomputable abbrev F63.x1 (k : Nat) (R0 : Ar3) : Nat → Kz := xB 1 (F63.q1 k R0) (F63.x0 k)
noncomputable abbrev F63.c11 : Code := cB F63.c10
noncomputable abbrev F63.c12 : Code := cR F63.c11
noncomputable abbrev F63.c13 : Code := cR F63.c12
noncomputable abbrev F63.c14 : Code := cR F63.c13
noncomputable def F63.p2 (k : Nat) (R0 : Ar3) (x0 x1 x2 x3 x4 : AV) (s : Store) : Rz :=
  aIndexArr 16 1 x1 x2 fun v1 => aStore 1 v1 x3 s fun s2 => F63.p1 k R0 x0 x1 x4 s2
noncomputable abbrev F63.q2 (k : Nat) (R0 : Ar3) : Kz := fun fr s => F63.p2 k R0 (fr 0) (fr 1) (fr 2) (fr 3) (fr 4) s
theorem F63.e2 (k : Nat) (R0 : Ar3) : F63.X k F63.c14 (F63.q1 k R0) (F63.x1 k R0) = (F63.q2 k R0) := lE
noncomputable abbrev F63.c15 : Code := cL F63.c13
noncomputable abbrev F63.c16 : Code := cR F63.c15
noncomputable abbrev F63.x2 (k : Nat) (R0 : Ar3) : Nat → Kz := xB 2 (F63.q2 k R0) (F63.x1 k R0)
noncomputable abbrev F63.c17 : Code := cB F63.c16
noncomputable abbrev F63.c18 : Code := cB F63.c17
noncomputable abbrev F63.c19 : Code := cR F63.c18
noncomputable abbrev F63.c20 : Code := cR F63.c19
noncomputable abbrev F63.c21 : Code := cR F63.c20
noncomputable def F63.p3 (k : Nat) (R0 : Ar3) (R1 : Ar6) (x0 x1 x2 x3 x4 x9 : AV) (s : Store) : Rz :=
  aBin .add x9 (AV.int .i64 1) fun v1 => R1 x0 x1 x2 x3 x4 v1 s
noncomputable abbrev F63.q3 (k : Nat) (R0 : Ar3) (R1 : Ar6) : Kz := fun fr s => F63.p3 k R0 R1 (fr 0) (fr 1) (fr 2) (fr 3) (fr 4) (fr 9) s
theorem F63.e3 (k : Nat) (R0 : Ar3) (R1 : Ar6) : F63.X k F63.c21 (fun fr s => R1 (fr 0) (fr 1) (fr 2) (fr 3) (fr 4) (fr 9) s) (F63.x2 k R0) = (F63.q3 k R0 R1) := lE
noncomputable abbrev F63.c22 : Code := cL F63.c20
noncomputable abbrev F63.x3 (k : Nat) (R0 : Ar3) (R1 : Ar6) : Nat → Kz := xB 3 (F63.q3 k R0 R1) (F63.x2 k R0)
noncomputable abbrev F63.c23 : Code := cB F63.c22
noncomputable def F63.p4 (k : Nat) (R0 : Ar3) (R1 : Ar6) (x0 x1 x2 x3 x4 x9 : AV) (s : Store) : Rz :=
  aShift .shr x3 (AV.int .u64 1) fun v1 => aBin .and x3 (AV.int .u32 1) fun v2 => aUn .neg v2 fun v3 => aBin .and (AV.int .u32 3988292384) v3 fun v4 => aBin .xor v1 v4 fun v5 => F63.p3 k R0 R1 x0 x1 x2 v5 x4 x9 s
noncomputable abbrev F63.q4 (k : Nat) (R0 : Ar3) (R1 : Ar6) : Kz := fun fr s => F63.p4 k R0 R1 (fr 0) (fr 1) (fr 2) (fr 3) (fr 4) (fr 9) s
theorem F63.e4 (k : Nat) (R0 : Ar3) (R1 : Ar6) : F63.X k F63.c23 (F63.q3 k R0 R1) (F63.x3 k R0 R1) = (F63.q4 k R0 R1) := lE
theorem F63.e5 (k : Nat) (R0 : Ar3) (R1 : Ar6) : F63.X k F63.c22 (F63.q3 k R0 R1) (F63.x2 k R0) = (F63.q4 k R0 R1) := blockE (i := 3) (F63.e4 k R0 R1)
theorem F63.e6 (k : Nat) (R0 : Ar3) (R1 : Ar6) : F63.X k F63.c20 (fun fr s => R1 (fr 0) (fr 1) (fr 2) (fr 3) (fr 4) (fr 9) s) (F63.x2 k R0) = (F63.q4 k R0 R1) := seqE (F63.e3 k R0 R1) (F63.e5 k R0 R1)
noncomputable abbrev F63.c24 : Code := cL F63.c19
noncomputable def F63.p5 (k : Nat) (R0 : Ar3) (R1 : Ar6) (x0 x1 x2 x3 x4 x9 x10 : AV) (s : Store) : Rz :=
  aIf x10 (F63.p4 k R0 R1 x0 x1 x2 x3 x4 x9 s) (F63.p2 k R0 x0 x1 x2 x3 x4 s)
noncomputable abbrev F63.q5 (k : Nat) (R0 : Ar3) (R1 : Ar6) : Kz := fun fr s => F63.p5 k R0 R1 (fr 0) (fr 1) (fr 2) (fr 3) (fr 4) (fr 9) (fr 10) s
theorem F63.e7 (k : Nat) (R0 : Ar3) (R1 : Ar6) : F63.X k F63.c24 (F63.q4 k R0 R1) (F63.x2 k R0) = (F63.q5 k R0 R1) := lE
theorem F63.e8 (k : Nat) (R0 : Ar3) (R1 : Ar6) : F63.X k F63.c19 (fun fr s => R1 (fr 0) (fr 1) (fr 2) (fr 3) (fr 4) (fr 9) s) (F63.x2 k R0) = (F63.q5 k R0 R1) := seqE (F63.e6 k R0 R1) (F63.e7 k R0 R1)
noncomputable abbrev F63.c25 : Code := cL F63.c18
noncomputable def F63.p6 (k : Nat) (R0 : Ar3) (R1 : Ar6) (x0 x1 x2 x3 x4 x9 : AV) (s : Store) : Rz :=
  aBin .lss x9 (AV.int .i64 4) fun v1 => F63.p5 k R0 R1 x0 x1 x2 x3 x4 x9 v1 s
noncomputable abbrev F63.q6 (k : Nat) (R0 : Ar3) (R1 : Ar6) : Kz := fun fr s => F63.p6 k R0 R1 (fr 0) (fr 1) (fr 2) (fr 3) (fr 4) (fr 9) s
theorem F63.e9 (k : Nat) (R0 : Ar3) (R1 : Ar6) : F63.X k F63.c25 (F63.q5 k R0 R1) (F63.x2 k R0) = (F63.q6 k R0 R1) := lE
theorem F63.e10 (k : Nat) (R0 : Ar3) (R1 : Ar6) : F63.X k F63.c18 (fun fr s => R1 (fr 0) (fr 1) (fr 2) (fr 3) (fr 4) (fr 9) s) (F63.x2 k R0) = (F63.q6 k R0 R1) := seqE (F63.e8 k R0 R1) (F63.e9 k R0 R1)
noncomputable def F63.l0 (k : Nat) (R0 : Ar3) : Nat → Ar6 := iterF (fun _ _ _ _ _ _ _ => none) (fun R1 x0 x1 x2 x3 x4 x9 s => F63.p6 k R0 R1 x0 x1 x2 x3 x4 x9 s)
theorem F63.e11 (k : Nat) (R0 : Ar3) : F63.X k F63.c17 (F63.q2 k R0) (F63.x2 k R0) = (fun fr s => F63.l0 k R0 k (fr 0) (fr 1) (fr 2) (fr 3) (fr 4) (fr 9) s) := loopE (fun R1 : Ar6 => (fun fr s => R1 (fr 0) (fr 1) (fr 2) (fr 3) (fr 4) (fr 9) s)) (z := (fun _ _ _ _ _ _ _ => none)) (B := (fun R1 x0 x1 x2 x3 x4 x9 s => F63.p6 k R0 R1 x0 x1 x2 x3 x4 x9 s)) rfl (fun R1 => F63.e10 k R0 R1)
theorem F63.e12 (k : Nat) (R0 : Ar3) : F63.X k F63.c16 (F63.q2 k R0) (F63.x1 k R0) = (fun fr s => F63.l0 k R0 k (fr 0) (fr 1) (fr 2) (fr 3) (fr 4) (fr 9) s) := blockE (i := 2) (F63.e11 k R0)
noncomputable abbrev F63.c26 : Code := cL F63.c15
noncomputable def F63.p7 (k : Nat) (R0 : Ar3) (x0 x1 x2 x3 x4 : AV) (s : Store) : Rz :=
  F63.l0 k R0 k x0 x1 x2 x3 x4 (AV.int .i64 0) s
noncomputable abbrev F63.q7 (k : Nat) (R0 : Ar3) : Kz := fun fr s => F63.p7 k R0 (fr 0) (fr 1) (fr 2) (fr 3) (fr 4) s
theorem F63.e13 (k : Nat) (R0 : Ar3) : F63.X k F63.c26 (fun fr s => F63.l0 k R0 k (fr 0) (fr 1) (fr 2) (fr 3) (fr 4) (fr 9) s) (F63.x1 k R0) = (F63.q7 k R0) := lE
theorem F63.e14 (k : Nat) (R0 : Ar3) : F63.X k F63.c15 (F63.q2 k R0) (F63.x1 k R0) = (F63.q7 k R0) := seqE (F63.e12 k R0) (F63.e13 k R0)
theorem F63.e15 (k : Nat) (R0 : Ar3) : F63.X k F63.c13 (F63.q1 k R0) (F63.x1 k R0) = (F63.q7 k R0) := seqE (F63.e2 k R0) (F63.e14 k R0)
noncomputable abbrev F63.c27 : Code := cL F63.c12
noncomputable def F63.p8 (k : Nat) (R0 : Ar3) (x0 x1 x2 x4 : AV) (s : Store) : Rz :=
  aConvInt .u32 x2 fun v1 => F63.p7 k R0 x0 x1 x2 v1 x4 s
noncomputable abbrev F63.q8 (k : Nat) (R0 : Ar3) : Kz := fun fr s => F63.p8 k R0 (fr 0) (fr 1) (fr 2) (fr 4) s
theorem F63.e16 (k : Nat) (R0 : Ar3) : F63.X k F63.c27 (F63.q7 k R0) (F63.x1 k R0) = (F63.q8 k R0) := lE
theorem F63.e17 (k : Nat) (R0 : Ar3) : F63.X k F63.c12 (F63.q1 k R0) (F63.x1 k R0) = (F63.q8 k R0) := seqE (F63.e15 k R0) (F63.e16 k R0)
noncomputable abbrev F63.c28 : Code := cL F63.c11
noncomputable def F63.p9 (k : Nat) (R0 : Ar3) (x0 x1 x4 : AV) (s : Store) : Rz :=
  F63.p8 k R0 x0 x1 x4 x4 s
noncomputable abbrev F63.q9 (k : Nat) (R0 : Ar3) : Kz := fun fr s => F63.p9 k R0 (fr 0) (fr 1) (fr 4) s
theorem F63.e18 (k : Nat) (R0 : Ar3) : F63.X k F63.c28 (F63.q8 k R0) (F63.x1 k R0) = (F63.q9 k R0) := lE
theorem F63.e19 (k : Nat) (R0 : Ar3) : F63.X k F63.c11 (F63.q1 k R0) (F63.x1 k R0) = (F63.q9 k R0) := seqE (F63.e17 k R0) (F63.e18 k R0)
theorem F63.e20 (k : Nat) (R0 : Ar3) : F63.X k F63.c10 (F63.q1 k R0) (F63.x0 k) = (F63.q9 k R0) := blockE (i := 1) (F63.e19 k R0)
theorem F63.e21 (k : Nat) (R0 : Ar3) : F63.X k F63.c8 (fun fr s => R0 (fr 0) (fr 1) (fr 4) s) (F63.x0 k) = (F63.q9 k R0) := seqE (F63.e1 k R0) (F63.e20 k R0)
noncomputable abbrev F63.c29 : Code := cL F63.c7
noncomputable def F63.p10 (k : Nat) (R0 : Ar3) (x0 x1 x4 x5 : AV) (s : Store) : Rz :=
  aIf x5 (F63.p9 k R0 x0 x1 x4 s) (F63.p0 k x0 x1 s)
noncomputable abbrev F63.q10 (k : Nat) (R0 : Ar3) : Kz := fun fr s => F63.p10 k R0 (fr 0) (fr 1) (fr 4) (fr 5) s
theorem F63.e22 (k : Nat) (R0 : Ar3) : F63.X k F63.c29 (F63.q9 k R0) (F63.x0 k) = (F63.q10 k R0) := lE
theorem F63.e23 (k : Nat) (R0 : Ar3) : F63.X k F63.c7 (fun fr s => R0 (fr 0) (fr 1) (fr 4) s) (F63.x0 k) = (F63.q10 k R0) := seqE (F63.e21 k R0) (F63.e22 k R0)
noncomputable abbrev F63.c30 : Code := cL F63.c6
noncomputable def F63.p11 (k : Nat) (R0 : Ar3) (x0 x1 x4 : AV) (s : Store) : Rz :=
  aBin .lss x4 (AV.int .i64 16) fun v1 => F63.p10 k R0 x0 x1 x4 v1 s
noncomputable abbrev F63.q11 (k : Nat) (R0 : Ar3) : Kz := fun fr s => F63.p11 k R0 (fr 0) (fr 1) (fr 4) s
theorem F63.e24 (k : Nat) (R0 : Ar3) : F63.X k F63.c30 (F63.q10 k R0) (F63.x0 k) = (F63.q11 k R0) := lE
theorem F63.e25 (k : Nat) (R0 : Ar3) : F63.X k F63.c6 (fun fr s => R0 (fr 0) (fr 1) (fr 4) s) (F63.x0 k) = (F63.q11 k R0) := seqE (F63.e23 k R0) (F63.e24 k R0)
noncomputable def F63.l1 (k : Nat) : Nat → Ar3 := iterF (fun _ _ _ _ => none) (fun R0 x0 x1 x4 s => F63.p11 k R0 x0 x1 x4 s)
theorem F63.e26 (k : Nat) : F63.X k F63.c5 (F63.q0 k) (F63.x0 k) = (fun fr s => F63.l1 k k (fr 0) (fr 1) (fr 4) s) := loopE (fun R0 : Ar3 => (fun fr s => R0 (fr 0) (fr 1) (fr 4) s)) (z := (fun _ _ _ _ => none)) (B := (fun R0 x0 x1 x4 s => F63.p11 k R0 x0 x1 x4 s)) rfl (fun R0 => F63.e25 k R0)
theorem F63.e27 (k : Nat) : F63.X k F63.c4 (F63.q0 k) xN = (fun fr s => F63.l1 k k (fr 0) (fr 1) (fr 4) s) := blockE (i := 0) (F63.e26 k)
noncomputable abbrev F63.c31 : Code := cL F63.c3
noncomputable def F63.p12 (k : Nat) (x0 x1 : AV) (s : Store) : Rz :=
  F63.l1 k k x0 x1 (AV.int .i64 0) s
noncomputable abbrev F63.q12 (k : Nat) : Kz := fun fr s => F63.p12 k (fr 0) (fr 1) s
theorem F63.e28 (k : Nat) : F63.X k F63.c31 (fun fr s => F63.l1 k k (fr 0) (fr 1) (fr 4) s) xN = (F63.q12 k) := lE
theorem F63.e29 (k : Nat) : F63.X k F63.c3 (F63.q0 k) xN = (F63.q12 k) := seqE (F63.e27 k) (F63.e28 k)
theorem F63.e30 (k : Nat) : F63.X k F63.c1 (retK Try.prog F63.rs) xN = (F63.q12 k) := seqE (F63.e0 k) (F63.e29 k)
noncomputable abbrev F63.c32 : Code := cL F63.c0
noncomputable def F63.p13 (k : Nat) (x0 : AV) (s : Store) : Rz :=
  aNew [AV.int .u32 0, AV.int .u32 0, AV.int .u32 0, AV.int .u32 0, AV.int .u32 0, AV.int .u32 0, AV.int .u32 0, AV.int .u32 0, AV.int .u32 0, AV.int .u32 0, AV.int .u32 0, AV.int .u32 0, AV.int .u32 0, AV.int .u32 0, AV.int .u32 0, AV.int .u32 0] s fun v1 s2 => F63.p12 k x0 v1 s2
noncomputable abbrev F63.q13 (k : Nat) : Kz := fun fr s => F63.p13 k (fr 0) s
theorem F63.e31 (k : Nat) : F63.X k F63.c32 (F63.q12 k) xN = (F63.q13 k) := lE
theorem F63.e32 (k : Nat) : F63.X k F63.c0 (retK Try.prog F63.rs) xN = (F63.q13 k) := seqE (F63.e30 k) (F63.e31 k)
noncomputable abbrev F63.c33 : Code := cL F63.code
noncomputable def F63.p14 (k : Nat) (s : Store) : Rz :=
  aNew [AV.int .u32 0, AV.int .u32 0, AV.int .u32 0, AV.int .u32 0, AV.int .u32 0, AV.int .u32 0, AV.int .u32 0, AV.int .u32 0, AV.int .u32 0, AV.int .u32 0, AV.int .u32 0, AV.int .u32 0, AV.int .u32 0, AV.int .u32 0, AV.int .u32 0, AV.int .u32 0] s fun v1 s2 => F63.p13 k v1 s2
noncomputable abbrev F63.q14 (k : Nat) : Kz := fun fr s => F63.p14 k s
theorem F63.e33 (k : Nat) : F63.X k F63.c33 (F63.q13 k) xN = (F63.q14 k) := lE
theorem F63.e34 (k : Nat) : F63.X k F63.code (retK Try.prog F63.rs) xN = (F63.q14 k) := seqE (F63.e32 k) (F63.e33 k)
noncomputable def F63.f (k : Nat) (s : Store) : Rz := F63.p14 k s
theorem F63.eq (k : Nat) (s : Store) : rn (k + 1) 63 [] s = F63.f k s :=
  (rn_eq Try.func63 (by kernel_rfl) (by kernel_rfl) (by kernel_rfl) k s (by kernel_rfl)).trans (congrFun (congrFun (F63.e34 k) (frOf [])) s)

/-! unison/crc.Sum: function 54 -/
noncomputable def F54.code : Code := bodyOf Try.f54
noncomputable def F54.rs : List ResultVar := Try.f54.results.toList
noncomputable abbrev F54.X (k : Nat) (c : Code) (n : Kz) (x : Nat → Kz) : Kz := exec Try.prog (rn k) k 44 c ⟨n, x, retK Try.prog F54.rs⟩
noncomputable abbrev F54.c0 : Code := cR F54.code
noncomputable abbrev F54.c1 : Code := cR F54.c0
noncomputable abbrev F54.c2 : Code := cR F54.c1
noncomputable abbrev F54.c3 : Code := cR F54.c2
noncomputable def F54.p0 (k : Nat) (x4 : AV) (s : Store) : Rz :=
  aUn .xor x4 fun v1 => some (v1, s)
noncomputable abbrev F54.q0 (k : Nat) : Kz := fun fr s => F54.p0 k (fr 4) s
theorem F54.e0 (k : Nat) : F54.X k F54.c3 (retK Try.prog F54.rs) xN = (F54.q0 k) := lE
noncomputable abbrev F54.c4 : Code := cL F54.c2
noncomputable abbrev F54.c5 : Code := cR F54.c4
noncomputable abbrev F54.x0 (k : Nat) : Nat → Kz := xB 0 (F54.q0 k) xN
noncomputable abbrev F54.c6 : Code := cB F54.c5
noncomputable abbrev F54.c7 : Code := cB F54.c6
noncomputable abbrev F54.c8 : Code := cR F54.c7
noncomputable abbrev F54.c9 : Code := cR F54.c8
noncomputable abbrev F54.c10 : Code := cR F54.c9
noncomputable def F54.p1 (k : Nat) (R0 : Ar5) (x3 x4 x10 x11 x12 : AV) (s : Store) : Rz :=
  aBin .add x12 (AV.int .i64 1) fun v1 => R0 x3 x4 x10 x11 v1 s
noncomputable abbrev F54.q1 (k : Nat) (R0 : Ar5) : Kz := fun fr s => F54.p1 k R0 (fr 3) (fr 4) (fr 10) (fr 11) (fr 12) s
theorem F54.e1 (k : Nat) (R0 : Ar5) : F54.X k F54.c10 (fun fr s => R0 (fr 3) (fr 4) (fr 10) (fr 11) (fr 12) s) (F54.x0 k) = (F54.q1 k R0) := lE
noncomputable abbrev F54.c11 : Code := cL F54.c9
noncomputable abbrev F54.x1 (k : Nat) (R0 : Ar5) : Nat → Kz := xB 1 (F54.q1 k R0) (F54.x0 k)
noncomputable abbrev F54.c12 : Code := cB F54.c11
noncomputable abbrev F54.c13 : Code := cR F54.c12
noncomputable abbrev F54.c14 : Code := cR F54.c13
noncomputable abbrev F54.x2 (k : Nat) (R0 : Ar5) : Nat → Kz := xB 2 (F54.q1 k R0) (F54.x1 k R0)
noncomputable abbrev F54.c15 : Code := cB F54.c14
noncomputable abbrev F54.c16 : Code := cB F54.c15
noncomputable abbrev F54.c17 : Code := cR F54.c16
noncomputable abbrev F54.c18 : Code := cR F54.c17
noncomputable abbrev F54.c19 : Code := cR F54.c18
noncomputable def F54.p2 (k : Nat) (R0 : Ar5) (R1 : Ar8) (x3 x4 x10 x11 x12 x16 x17 x18 : AV) (s : Store) : Rz :=
  aBin .add x18 (AV.int .i64 1) fun v1 => R1 x3 x4 x10 x11 x12 x16 x17 v1 s
noncomputable abbrev F54.q2 (k : Nat) (R0 : Ar5) (R1 : Ar8) : Kz := fun fr s => F54.p2 k R0 R1 (fr 3) (fr 4) (fr 10) (fr 11) (fr 12) (fr 16) (fr 17) (fr 18) s
theorem F54.e2 (k : Nat) (R0 : Ar5) (R1 : Ar8) : F54.X k F54.c19 (fun fr s => R1 (fr 3) (fr 4) (fr 10) (fr 11) (fr 12) (fr 16) (fr 17) (fr 18) s) (F54.x2 k R0) = (F54.q2 k R0 R1) := lE
noncomputable abbrev F54.c20 : Code := cL F54.c18
noncomputable abbrev F54.x3 (k : Nat) (R0 : Ar5) (R1 : Ar8) : Nat → Kz := xB 3 (F54.q2 k R0 R1) (F54.x2 k R0)
noncomputable abbrev F54.c21 : Code := cB F54.c20
noncomputable def F54.p3 (k : Nat) (R0 : Ar5) (R1 : Ar8) (x3 x4 x10 x11 x12 x16 x17 x18 : AV) (s : Store) : Rz :=
  aIndexSl 1 x16 x18 fun v1 => aLoad1 v1 s fun v2 => aConvInt .u32 v2 fun v3 => aBin .xor x4 v3 fun v4 => aShift .shr v4 (AV.int .u64 4) fun v5 => aBin .and v4 (AV.int .u32 15) fun v6 => aIndexArr 16 1 x3 v6 fun v7 => aLoad1 v7 s fun v8 => aBin .xor v5 v8 fun v9 => aShift .shr v9 (AV.int .u64 4) fun v10 => aBin .and v9 (AV.int .u32 15) fun v11 => aIndexArr 16 1 x3 v11 fun v12 => aLoad1 v12 s fun v13 => aBin .xor v10 v13 fun v14 => F54.p2 k R0 R1 x3 v14 x10 x11 x12 x16 x17 x18 s
noncomputable abbrev F54.q3 (k : Nat) (R0 : Ar5) (R1 : Ar8) : Kz := fun fr s => F54.p3 k R0 R1 (fr 3) (fr 4) (fr 10) (fr 11) (fr 12) (fr 16) (fr 17) (fr 18) s
theorem F54.e3 (k : Nat) (R0 : Ar5) (R1 : Ar8) : F54.X k F54.c21 (F54.q2 k R0 R1) (F54.x3 k R0 R1) = (F54.q3 k R0 R1) := lE
theorem F54.e4 (k : Nat) (R0 : Ar5) (R1 : Ar8) : F54.X k F54.c20 (F54.q2 k R0 R1) (F54.x2 k R0) = (F54.q3 k R0 R1) := blockE (i := 3) (F54.e3 k R0 R1)
theorem F54.e5 (k : Nat) (R0 : Ar5) (R1 : Ar8) : F54.X k F54.c18 (fun fr s => R1 (fr 3) (fr 4) (fr 10) (fr 11) (fr 12) (fr 16) (fr 17) (fr 18) s) (F54.x2 k R0) = (F54.q3 k R0 R1) := seqE (F54.e2 k R0 R1) (F54.e4 k R0 R1)
noncomputable abbrev F54.c22 : Code := cL F54.c17
noncomputable def F54.p4 (k : Nat) (R0 : Ar5) (R1 : Ar8) (x3 x4 x10 x11 x12 x16 x17 x18 x19 : AV) (s : Store) : Rz :=
  aIf x19 (F54.p3 k R0 R1 x3 x4 x10 x11 x12 x16 x17 x18 s) (F54.p1 k R0 x3 x4 x10 x11 x12 s)
noncomputable abbrev F54.q4 (k : Nat) (R0 : Ar5) (R1 : Ar8) : Kz := fun fr s => F54.p4 k R0 R1 (fr 3) (fr 4) (fr 10) (fr 11) (fr 12) (fr 16) (fr 17) (fr 18) (fr 19) s
theorem F54.e6 (k : Nat) (R0 : Ar5) (R1 : Ar8) : F54.X k F54.c22 (F54.q3 k R0 R1) (F54.x2 k R0) = (F54.q4 k R0 R1) := lE
theorem F54.e7 (k : Nat) (R0 : Ar5) (R1 : Ar8) : F54.X k F54.c17 (fun fr s => R1 (fr 3) (fr 4) (fr 10) (fr 11) (fr 12) (fr 16) (fr 17) (fr 18) s) (F54.x2 k R0) = (F54.q4 k R0 R1) := seqE (F54.e5 k R0 R1) (F54.e6 k R0 R1)
noncomputable abbrev F54.c23 : Code := cL F54.c16
noncomputable def F54.p5 (k : Nat) (R0 : Ar5) (R1 : Ar8) (x3 x4 x10 x11 x12 x16 x17 x18 : AV) (s : Store) : Rz :=
  aBin .lss x18 x17 fun v1 => F54.p4 k R0 R1 x3 x4 x10 x11 x12 x16 x17 x18 v1 s
noncomputable abbrev F54.q5 (k : Nat) (R0 : Ar5) (R1 : Ar8) : Kz := fun fr s => F54.p5 k R0 R1 (fr 3) (fr 4) (fr 10) (fr 11) (fr 12) (fr 16) (fr 17) (fr 18) s
theorem F54.e8 (k : Nat) (R0 : Ar5) (R1 : Ar8) : F54.X k F54.c23 (F54.q4 k R0 R1) (F54.x2 k R0) = (F54.q5 k R0 R1) := lE
theorem F54.e9 (k : Nat) (R0 : Ar5) (R1 : Ar8) : F54.X k F54.c16 (fun fr s => R1 (fr 3) (fr 4) (fr 10) (fr 11) (fr 12) (fr 16) (fr 17) (fr 18) s) (F54.x2 k R0) = (F54.q5 k R0 R1) := seqE (F54.e7 k R0 R1) (F54.e8 k R0 R1)
noncomputable def F54.l0 (k : Nat) (R0 : Ar5) : Nat → Ar8 := iterF (fun _ _ _ _ _ _ _ _ _ => none) (fun R1 x3 x4 x10 x11 x12 x16 x17 x18 s => F54.p5 k R0 R1 x3 x4 x10 x11 x12 x16 x17 x18 s)
theorem F54.e10 (k : Nat) (R0 : Ar5) : F54.X k F54.c15 (F54.q1 k R0) (F54.x2 k R0) = (fun fr s => F54.l0 k R0 k (fr 3) (fr 4) (fr 10) (fr 11) (fr 12) (fr 16) (fr 17) (fr 18) s) := loopE (fun R1 : Ar8 => (fun fr s => R1 (fr 3) (fr 4) (fr 10) (fr 11) (fr 12) (fr 16) (fr 17) (fr 18) s)) (z := (fun _ _ _ _ _ _ _ _ _ => none)) (B := (fun R1 x3 x4 x10 x11 x12 x16 x17 x18 s => F54.p5 k R0 R1 x3 x4 x10 x11 x12 x16 x17 x18 s)) rfl (fun R1 => F54.e9 k R0 R1)
theorem F54.e11 (k : Nat) (R0 : Ar5) : F54.X k F54.c14 (F54.q1 k R0) (F54.x1 k R0) = (fun fr s => F54.l0 k R0 k (fr 3) (fr 4) (fr 10) (fr 11) (fr 12) (fr 16) (fr 17) (fr 18) s) := blockE (i := 2) (F54.e10 k R0)
noncomputable abbrev F54.c24 : Code := cL F54.c13
noncomputable def F54.p6 (k : Nat) (R0 : Ar5) (x3 x4 x6 x10 x11 x12 : AV) (s : Store) : Rz :=
  aLen x6 fun v1 => F54.l0 k R0 k x3 x4 x10 x11 x12 x6 v1 (AV.int .i64 0) s
noncomputable abbrev F54.q6 (k : Nat) (R0 : Ar5) : Kz := fun fr s => F54.p6 k R0 (fr 3) (fr 4) (fr 6) (fr 10) (fr 11) (fr 12) s
theorem F54.e12 (k : Nat) (R0 : Ar5) : F54.X k F54.c24 (fun fr s => F54.l0 k R0 k (fr 3) (fr 4) (fr 10) (fr 11) (fr 12) (fr 16) (fr 17) (fr 18) s) (F54.x1 k R0) = (F54.q6 k R0) := lE
theorem F54.e13 (k : Nat) (R0 : Ar5) : F54.X k F54.c13 (F54.q1 k R0) (F54.x1 k R0) = (F54.q6 k R0) := seqE (F54.e11 k R0) (F54.e12 k R0)
noncomputable abbrev F54.c25 : Code := cL F54.c12
noncomputable def F54.p7 (k : Nat) (R0 : Ar5) (x3 x4 x10 x11 x12 : AV) (s : Store) : Rz :=
  aIndexSl 1 x10 x12 fun v1 => aLoad1 v1 s fun v2 => F54.p6 k R0 x3 x4 v2 x10 x11 x12 s
noncomputable abbrev F54.q7 (k : Nat) (R0 : Ar5) : Kz := fun fr s => F54.p7 k R0 (fr 3) (fr 4) (fr 10) (fr 11) (fr 12) s
theorem F54.e14 (k : Nat) (R0 : Ar5) : F54.X k F54.c25 (F54.q6 k R0) (F54.x1 k R0) = (F54.q7 k R0) := lE
theorem F54.e15 (k : Nat) (R0 : Ar5) : F54.X k F54.c12 (F54.q1 k R0) (F54.x1 k R0) = (F54.q7 k R0) := seqE (F54.e13 k R0) (F54.e14 k R0)
theorem F54.e16 (k : Nat) (R0 : Ar5) : F54.X k F54.c11 (F54.q1 k R0) (F54.x0 k) = (F54.q7 k R0) := blockE (i := 1) (F54.e15 k R0)
theorem F54.e17 (k : Nat) (R0 : Ar5) : F54.X k F54.c9 (fun fr s => R0 (fr 3) (fr 4) (fr 10) (fr 11) (fr 12) s) (F54.x0 k) = (F54.q7 k R0) := seqE (F54.e1 k R0) (F54.e16 k R0)
noncomputable abbrev F54.c26 : Code := cL F54.c8
noncomputable def F54.p8 (k : Nat) (R0 : Ar5) (x3 x4 x10 x11 x12 x13 : AV) (s : Store) : Rz :=
  aIf x13 (F54.p7 k R0 x3 x4 x10 x11 x12 s) (F54.p0 k x4 s)
noncomputable abbrev F54.q8 (k : Nat) (R0 : Ar5) : Kz := fun fr s => F54.p8 k R0 (fr 3) (fr 4) (fr 10) (fr 11) (fr 12) (fr 13) s
theorem F54.e18 (k : Nat) (R0 : Ar5) : F54.X k F54.c26 (F54.q7 k R0) (F54.x0 k) = (F54.q8 k R0) := lE
theorem F54.e19 (k : Nat) (R0 : Ar5) : F54.X k F54.c8 (fun fr s => R0 (fr 3) (fr 4) (fr 10) (fr 11) (fr 12) s) (F54.x0 k) = (F54.q8 k R0) := seqE (F54.e17 k R0) (F54.e18 k R0)
noncomputable abbrev F54.c27 : Code := cL F54.c7
noncomputable def F54.p9 (k : Nat) (R0 : Ar5) (x3 x4 x10 x11 x12 : AV) (s : Store) : Rz :=
  aBin .lss x12 x11 fun v1 => F54.p8 k R0 x3 x4 x10 x11 x12 v1 s
noncomputable abbrev F54.q9 (k : Nat) (R0 : Ar5) : Kz := fun fr s => F54.p9 k R0 (fr 3) (fr 4) (fr 10) (fr 11) (fr 12) s
theorem F54.e20 (k : Nat) (R0 : Ar5) : F54.X k F54.c27 (F54.q8 k R0) (F54.x0 k) = (F54.q9 k R0) := lE
theorem F54.e21 (k : Nat) (R0 : Ar5) : F54.X k F54.c7 (fun fr s => R0 (fr 3) (fr 4) (fr 10) (fr 11) (fr 12) s) (F54.x0 k) = (F54.q9 k R0) := seqE (F54.e19 k R0) (F54.e20 k R0)
noncomputable def F54.l1 (k : Nat) : Nat → Ar5 := iterF (fun _ _ _ _ _ _ => none) (fun R0 x3 x4 x10 x11 x12 s => F54.p9 k R0 x3 x4 x10 x11 x12 s)
theorem F54.e22 (k : Nat) : F54.X k F54.c6 (F54.q0 k) (F54.x0 k) = (fun fr s => F54.l1 k k (fr 3) (fr 4) (fr 10) (fr 11) (fr 12) s) := loopE (fun R0 : Ar5 => (fun fr s => R0 (fr 3) (fr 4) (fr 10) (fr 11) (fr 12) s)) (z := (fun _ _ _ _ _ _ => none)) (B := (fun R0 x3 x4 x10 x11 x12 s => F54.p9 k R0 x3 x4 x10 x11 x12 s)) rfl (fun R0 => F54.e21 k R0)
theorem F54.e23 (k : Nat) : F54.X k F54.c5 (F54.q0 k) xN = (fun fr s => F54.l1 k k (fr 3) (fr 4) (fr 10) (fr 11) (fr 12) s) := blockE (i := 0) (F54.e22 k)
noncomputable abbrev F54.c28 : Code := cL F54.c4
noncomputable def F54.p10 (k : Nat) (x0 x3 x4 : AV) (s : Store) : Rz :=
  aLen x0 fun v1 => F54.l1 k k x3 x4 x0 v1 (AV.int .i64 0) s
noncomputable abbrev F54.q10 (k : Nat) : Kz := fun fr s => F54.p10 k (fr 0) (fr 3) (fr 4) s
theorem F54.e24 (k : Nat) : F54.X k F54.c28 (fun fr s => F54.l1 k k (fr 3) (fr 4) (fr 10) (fr 11) (fr 12) s) xN = (F54.q10 k) := lE
theorem F54.e25 (k : Nat) : F54.X k F54.c4 (F54.q0 k) xN = (F54.q10 k) := seqE (F54.e23 k) (F54.e24 k)
theorem F54.e26 (k : Nat) : F54.X k F54.c2 (retK Try.prog F54.rs) xN = (F54.q10 k) := seqE (F54.e0 k) (F54.e25 k)
noncomputable abbrev F54.c29 : Code := cL F54.c1
noncomputable def F54.p11 (k : Nat) (x0 x3 : AV) (s : Store) : Rz :=
  F54.p10 k x0 x3 (AV.int .u32 4294967295) s
noncomputable abbrev F54.q11 (k : Nat) : Kz := fun fr s => F54.p11 k (fr 0) (fr 3) s
theorem F54.e27 (k : Nat) : F54.X k F54.c29 (F54.q10 k) xN = (F54.q11 k) := lE
theorem F54.e28 (k : Nat) : F54.X k F54.c1 (retK Try.prog F54.rs) xN = (F54.q11 k) := seqE (F54.e26 k) (F54.e27 k)
noncomputable abbrev F54.c30 : Code := cL F54.c0
noncomputable def F54.p12 (k : Nat) (x0 : AV) (s : Store) : Rz :=
  (rn k 63 [] s).bind fun q1 => aNew [AV.int .u32 0, AV.int .u32 0, AV.int .u32 0, AV.int .u32 0, AV.int .u32 0, AV.int .u32 0, AV.int .u32 0, AV.int .u32 0, AV.int .u32 0, AV.int .u32 0, AV.int .u32 0, AV.int .u32 0, AV.int .u32 0, AV.int .u32 0, AV.int .u32 0, AV.int .u32 0] q1.2 fun v2 s3 => aStore 16 v2 q1.1 s3 fun s4 => F54.p11 k x0 v2 s4
noncomputable abbrev F54.q12 (k : Nat) : Kz := fun fr s => F54.p12 k (fr 0) s
theorem F54.e29 (k : Nat) : F54.X k F54.c30 (F54.q11 k) xN = (F54.q12 k) := lE
theorem F54.e30 (k : Nat) : F54.X k F54.c0 (retK Try.prog F54.rs) xN = (F54.q12 k) := seqE (F54.e28 k) (F54.e29 k)
noncomputable abbrev F54.c31 : Code := cL F54.code
noncomputable def F54.p13 (k : Nat) (x0 : AV) (s : Store) : Rz :=
  F54.p12 k x0 s
noncomputable abbrev F54.q13 (k : Nat) : Kz := fun fr s => F54.p13 k (fr 0) s
theorem F54.e31 (k : Nat) : F54.X k F54.c31 (F54.q12 k) xN = (F54.q13 k) := lE
theorem F54.e32 (k : Nat) : F54.X k F54.code (retK Try.prog F54.rs) xN = (F54.q13 k) := seqE (F54.e30 k) (F54.e31 k)
noncomputable def F54.f (k : Nat) (a0 : AV) (s : Store) : Rz := F54.p13 k a0 s
theorem F54.eq (k : Nat) (a0 : AV) (s : Store) : rn (k + 1) 54 [a0] s = F54.f k a0 s :=
  (rn_eq Try.func54 (by kernel_rfl) (by kernel_rfl) (by kernel_rfl) k s (by kernel_rfl)).trans (congrFun (congrFun (F54.e32 k) (frOf [a0])) s)

/-! unison/crc.Mark: function 30 -/
noncomputable def F30.code : Code := bodyOf Try.f30
noncomputable def F30.rs : List ResultVar := Try.f30.results.toList
noncomputable abbrev F30.X (k : Nat) (c : Code) (n : Kz) (x : Nat → Kz) : Kz := exec Try.prog (rn k) k 37 c ⟨n, x, retK Try.prog F30.rs⟩
noncomputable abbrev F30.c0 : Code := cR F30.code
noncomputable abbrev F30.c1 : Code := cR F30.c0
noncomputable abbrev F30.c2 : Code := cR F30.c1
noncomputable abbrev F30.c3 : Code := cR F30.c2
noncomputable abbrev F30.c4 : Code := cR F30.c3
noncomputable def F30.p0 (k : Nat) (x0 x6 : AV) (s : Store) : Rz :=
  (rn k 54 [x0] s).bind fun q1 => (rn k 53 [q1.1] q1.2).bind fun q2 => aAppend 1 1 x6 q2.1 q2.2 fun v3 s4 => some (v3, s4)
noncomputable abbrev F30.q0 (k : Nat) : Kz := fun fr s => F30.p0 k (fr 0) (fr 6) s
theorem F30.e0 (k : Nat) : F30.X k F30.c4 (retK Try.prog F30.rs) xN = (F30.q0 k) := lE
noncomputable abbrev F30.c5 : Code := cL F30.c3
noncomputable abbrev F30.c6 : Code := cR F30.c5
noncomputable abbrev F30.x0 (k : Nat) : Nat → Kz := xB 2 (F30.q0 k) xN
noncomputable abbrev F30.c7 : Code := cB F30.c6
noncomputable abbrev F30.c8 : Code := cB F30.c7
noncomputable abbrev F30.c9 : Code := cR F30.c8
noncomputable abbrev F30.c10 : Code := cR F30.c9
noncomputable abbrev F30.c11 : Code := cR F30.c10
noncomputable def F30.p1 (k : Nat) (R0 : Ar5) (x0 x6 x22 x23 x24 : AV) (s : Store) : Rz :=
  aBin .add x24 (AV.int .i64 1) fun v1 => R0 x0 x6 x22 x23 v1 s
noncomputable abbrev F30.q1 (k : Nat) (R0 : Ar5) : Kz := fun fr s => F30.p1 k R0 (fr 0) (fr 6) (fr 22) (fr 23) (fr 24) s
theorem F30.e1 (k : Nat) (R0 : Ar5) : F30.X k F30.c11 (fun fr s => R0 (fr 0) (fr 6) (fr 22) (fr 23) (fr 24) s) (F30.x0 k) = (F30.q1 k R0) := lE
noncomputable abbrev F30.c12 : Code := cL F30.c10
noncomputable abbrev F30.x1 (k : Nat) (R0 : Ar5) : Nat → Kz := xB 3 (F30.q1 k R0) (F30.x0 k)
noncomputable abbrev F30.c13 : Code := cB F30.c12
noncomputable def F30.p2 (k : Nat) (R0 : Ar5) (x0 x6 x22 x23 x24 : AV) (s : Store) : Rz :=
  aIndexSl 1 x22 x24 fun v1 => aLoad1 v1 s fun v2 => aAppend 1 1 x6 v2 s fun v3 s4 => F30.p1 k R0 x0 v3 x22 x23 x24 s4
noncomputable abbrev F30.q2 (k : Nat) (R0 : Ar5) : Kz := fun fr s => F30.p2 k R0 (fr 0) (fr 6) (fr 22) (fr 23) (fr 24) s
theorem F30.e2 (k : Nat) (R0 : Ar5) : F30.X k F30.c13 (F30.q1 k R0) (F30.x1 k R0) = (F30.q2 k R0) := lE
theorem F30.e3 (k : Nat) (R0 : Ar5) : F30.X k F30.c12 (F30.q1 k R0) (F30.x0 k) = (F30.q2 k R0) := blockE (i := 3) (F30.e2 k R0)
theorem F30.e4 (k : Nat) (R0 : Ar5) : F30.X k F30.c10 (fun fr s => R0 (fr 0) (fr 6) (fr 22) (fr 23) (fr 24) s) (F30.x0 k) = (F30.q2 k R0) := seqE (F30.e1 k R0) (F30.e3 k R0)
noncomputable abbrev F30.c14 : Code := cL F30.c9
noncomputable def F30.p3 (k : Nat) (R0 : Ar5) (x0 x6 x22 x23 x24 x25 : AV) (s : Store) : Rz :=
  aIf x25 (F30.p2 k R0 x0 x6 x22 x23 x24 s) (F30.p0 k x0 x6 s)
noncomputable abbrev F30.q3 (k : Nat) (R0 : Ar5) : Kz := fun fr s => F30.p3 k R0 (fr 0) (fr 6) (fr 22) (fr 23) (fr 24) (fr 25) s
theorem F30.e5 (k : Nat) (R0 : Ar5) : F30.X k F30.c14 (F30.q2 k R0) (F30.x0 k) = (F30.q3 k R0) := lE
theorem F30.e6 (k : Nat) (R0 : Ar5) : F30.X k F30.c9 (fun fr s => R0 (fr 0) (fr 6) (fr 22) (fr 23) (fr 24) s) (F30.x0 k) = (F30.q3 k R0) := seqE (F30.e4 k R0) (F30.e5 k R0)
noncomputable abbrev F30.c15 : Code := cL F30.c8
noncomputable def F30.p4 (k : Nat) (R0 : Ar5) (x0 x6 x22 x23 x24 : AV) (s : Store) : Rz :=
  aBin .lss x24 x23 fun v1 => F30.p3 k R0 x0 x6 x22 x23 x24 v1 s
noncomputable abbrev F30.q4 (k : Nat) (R0 : Ar5) : Kz := fun fr s => F30.p4 k R0 (fr 0) (fr 6) (fr 22) (fr 23) (fr 24) s
theorem F30.e7 (k : Nat) (R0 : Ar5) : F30.X k F30.c15 (F30.q3 k R0) (F30.x0 k) = (F30.q4 k R0) := lE
theorem F30.e8 (k : Nat) (R0 : Ar5) : F30.X k F30.c8 (fun fr s => R0 (fr 0) (fr 6) (fr 22) (fr 23) (fr 24) s) (F30.x0 k) = (F30.q4 k R0) := seqE (F30.e6 k R0) (F30.e7 k R0)
noncomputable def F30.l0 (k : Nat) : Nat → Ar5 := iterF (fun _ _ _ _ _ _ => none) (fun R0 x0 x6 x22 x23 x24 s => F30.p4 k R0 x0 x6 x22 x23 x24 s)
theorem F30.e9 (k : Nat) : F30.X k F30.c7 (F30.q0 k) (F30.x0 k) = (fun fr s => F30.l0 k k (fr 0) (fr 6) (fr 22) (fr 23) (fr 24) s) := loopE (fun R0 : Ar5 => (fun fr s => R0 (fr 0) (fr 6) (fr 22) (fr 23) (fr 24) s)) (z := (fun _ _ _ _ _ _ => none)) (B := (fun R0 x0 x6 x22 x23 x24 s => F30.p4 k R0 x0 x6 x22 x23 x24 s)) rfl (fun R0 => F30.e8 k R0)
theorem F30.e10 (k : Nat) : F30.X k F30.c6 (F30.q0 k) xN = (fun fr s => F30.l0 k k (fr 0) (fr 6) (fr 22) (fr 23) (fr 24) s) := blockE (i := 2) (F30.e9 k)
noncomputable abbrev F30.c16 : Code := cL F30.c5
noncomputable def F30.p5 (k : Nat) (x0 x6 : AV) (s : Store) : Rz :=
  aLen x0 fun v1 => F30.l0 k k x0 x6 x0 v1 (AV.int .i64 0) s
noncomputable abbrev F30.q5 (k : Nat) : Kz := fun fr s => F30.p5 k (fr 0) (fr 6) s
theorem F30.e11 (k : Nat) : F30.X k F30.c16 (fun fr s => F30.l0 k k (fr 0) (fr 6) (fr 22) (fr 23) (fr 24) s) xN = (F30.q5 k) := lE
theorem F30.e12 (k : Nat) : F30.X k F30.c5 (F30.q0 k) xN = (F30.q5 k) := seqE (F30.e10 k) (F30.e11 k)
theorem F30.e13 (k : Nat) : F30.X k F30.c3 (retK Try.prog F30.rs) xN = (F30.q5 k) := seqE (F30.e0 k) (F30.e12 k)
noncomputable abbrev F30.c17 : Code := cL F30.c2
noncomputable def F30.p6 (k : Nat) (x0 x3 : AV) (s : Store) : Rz :=
  aMakeSlice [AV.int .u8 0] 1 1 (AV.int .i64 0) x3 s fun v1 s2 => F30.p5 k x0 v1 s2
noncomputable abbrev F30.q6 (k : Nat) : Kz := fun fr s => F30.p6 k (fr 0) (fr 3) s
theorem F30.e14 (k : Nat) : F30.X k F30.c17 (F30.q5 k) xN = (F30.q6 k) := lE
theorem F30.e15 (k : Nat) : F30.X k F30.c2 (retK Try.prog F30.rs) xN = (F30.q6 k) := seqE (F30.e13 k) (F30.e14 k)
noncomputable abbrev F30.c18 : Code := cL F30.c1
noncomputable abbrev F30.c19 : Code := cR F30.c18
noncomputable abbrev F30.x2 (k : Nat) : Nat → Kz := xB 0 (F30.q6 k) xN
noncomputable abbrev F30.c20 : Code := cB F30.c19
noncomputable abbrev F30.c21 : Code := cB F30.c20
noncomputable abbrev F30.c22 : Code := cR F30.c21
noncomputable abbrev F30.c23 : Code := cR F30.c22
noncomputable abbrev F30.c24 : Code := cR F30.c23
noncomputable def F30.p7 (k : Nat) (R0 : Ar5) (x0 x3 x9 x10 x11 : AV) (s : Store) : Rz :=
  aBin .add x11 (AV.int .i64 1) fun v1 => R0 x0 x3 x9 x10 v1 s
noncomputable abbrev F30.q7 (k : Nat) (R0 : Ar5) : Kz := fun fr s => F30.p7 k R0 (fr 0) (fr 3) (fr 9) (fr 10) (fr 11) s
theorem F30.e16 (k : Nat) (R0 : Ar5) : F30.X k F30.c24 (fun fr s => R0 (fr 0) (fr 3) (fr 9) (fr 10) (fr 11) s) (F30.x2 k) = (F30.q7 k R0) := lE
noncomputable abbrev F30.c25 : Code := cL F30.c23
noncomputable abbrev F30.x3 (k : Nat) (R0 : Ar5) : Nat → Kz := xB 1 (F30.q7 k R0) (F30.x2 k)
noncomputable abbrev F30.c26 : Code := cB F30.c25
noncomputable def F30.p8 (k : Nat) (R0 : Ar5) (x0 x3 x9 x10 x11 : AV) (s : Store) : Rz :=
  aIndexSl 1 x9 x11 fun v1 => aLoad1 v1 s fun v2 => aLen v2 fun v3 => aBin .add x3 v3 fun v4 => F30.p7 k R0 x0 v4 x9 x10 x11 s
noncomputable abbrev F30.q8 (k : Nat) (R0 : Ar5) : Kz := fun fr s => F30.p8 k R0 (fr 0) (fr 3) (fr 9) (fr 10) (fr 11) s
theorem F30.e17 (k : Nat) (R0 : Ar5) : F30.X k F30.c26 (F30.q7 k R0) (F30.x3 k R0) = (F30.q8 k R0) := lE
theorem F30.e18 (k : Nat) (R0 : Ar5) : F30.X k F30.c25 (F30.q7 k R0) (F30.x2 k) = (F30.q8 k R0) := blockE (i := 1) (F30.e17 k R0)
theorem F30.e19 (k : Nat) (R0 : Ar5) : F30.X k F30.c23 (fun fr s => R0 (fr 0) (fr 3) (fr 9) (fr 10) (fr 11) s) (F30.x2 k) = (F30.q8 k R0) := seqE (F30.e16 k R0) (F30.e18 k R0)
noncomputable abbrev F30.c27 : Code := cL F30.c22
noncomputable def F30.p9 (k : Nat) (R0 : Ar5) (x0 x3 x9 x10 x11 x12 : AV) (s : Store) : Rz :=
  aIf x12 (F30.p8 k R0 x0 x3 x9 x10 x11 s) (F30.p6 k x0 x3 s)
noncomputable abbrev F30.q9 (k : Nat) (R0 : Ar5) : Kz := fun fr s => F30.p9 k R0 (fr 0) (fr 3) (fr 9) (fr 10) (fr 11) (fr 12) s
theorem F30.e20 (k : Nat) (R0 : Ar5) : F30.X k F30.c27 (F30.q8 k R0) (F30.x2 k) = (F30.q9 k R0) := lE
theorem F30.e21 (k : Nat) (R0 : Ar5) : F30.X k F30.c22 (fun fr s => R0 (fr 0) (fr 3) (fr 9) (fr 10) (fr 11) s) (F30.x2 k) = (F30.q9 k R0) := seqE (F30.e19 k R0) (F30.e20 k R0)
noncomputable abbrev F30.c28 : Code := cL F30.c21
noncomputable def F30.p10 (k : Nat) (R0 : Ar5) (x0 x3 x9 x10 x11 : AV) (s : Store) : Rz :=
  aBin .lss x11 x10 fun v1 => F30.p9 k R0 x0 x3 x9 x10 x11 v1 s
noncomputable abbrev F30.q10 (k : Nat) (R0 : Ar5) : Kz := fun fr s => F30.p10 k R0 (fr 0) (fr 3) (fr 9) (fr 10) (fr 11) s
theorem F30.e22 (k : Nat) (R0 : Ar5) : F30.X k F30.c28 (F30.q9 k R0) (F30.x2 k) = (F30.q10 k R0) := lE
theorem F30.e23 (k : Nat) (R0 : Ar5) : F30.X k F30.c21 (fun fr s => R0 (fr 0) (fr 3) (fr 9) (fr 10) (fr 11) s) (F30.x2 k) = (F30.q10 k R0) := seqE (F30.e21 k R0) (F30.e22 k R0)
noncomputable def F30.l1 (k : Nat) : Nat → Ar5 := iterF (fun _ _ _ _ _ _ => none) (fun R0 x0 x3 x9 x10 x11 s => F30.p10 k R0 x0 x3 x9 x10 x11 s)
theorem F30.e24 (k : Nat) : F30.X k F30.c20 (F30.q6 k) (F30.x2 k) = (fun fr s => F30.l1 k k (fr 0) (fr 3) (fr 9) (fr 10) (fr 11) s) := loopE (fun R0 : Ar5 => (fun fr s => R0 (fr 0) (fr 3) (fr 9) (fr 10) (fr 11) s)) (z := (fun _ _ _ _ _ _ => none)) (B := (fun R0 x0 x3 x9 x10 x11 s => F30.p10 k R0 x0 x3 x9 x10 x11 s)) rfl (fun R0 => F30.e23 k R0)
theorem F30.e25 (k : Nat) : F30.X k F30.c19 (F30.q6 k) xN = (fun fr s => F30.l1 k k (fr 0) (fr 3) (fr 9) (fr 10) (fr 11) s) := blockE (i := 0) (F30.e24 k)
noncomputable abbrev F30.c29 : Code := cL F30.c18
noncomputable def F30.p11 (k : Nat) (x0 x3 : AV) (s : Store) : Rz :=
  aLen x0 fun v1 => F30.l1 k k x0 x3 x0 v1 (AV.int .i64 0) s
noncomputable abbrev F30.q11 (k : Nat) : Kz := fun fr s => F30.p11 k (fr 0) (fr 3) s
theorem F30.e26 (k : Nat) : F30.X k F30.c29 (fun fr s => F30.l1 k k (fr 0) (fr 3) (fr 9) (fr 10) (fr 11) s) xN = (F30.q11 k) := lE
theorem F30.e27 (k : Nat) : F30.X k F30.c18 (F30.q6 k) xN = (F30.q11 k) := seqE (F30.e25 k) (F30.e26 k)
theorem F30.e28 (k : Nat) : F30.X k F30.c1 (retK Try.prog F30.rs) xN = (F30.q11 k) := seqE (F30.e15 k) (F30.e27 k)
noncomputable abbrev F30.c30 : Code := cL F30.c0
noncomputable def F30.p12 (k : Nat) (x0 : AV) (s : Store) : Rz :=
  F30.p11 k x0 (AV.int .i64 4) s
noncomputable abbrev F30.q12 (k : Nat) : Kz := fun fr s => F30.p12 k (fr 0) s
theorem F30.e29 (k : Nat) : F30.X k F30.c30 (F30.q11 k) xN = (F30.q12 k) := lE
theorem F30.e30 (k : Nat) : F30.X k F30.c0 (retK Try.prog F30.rs) xN = (F30.q12 k) := seqE (F30.e28 k) (F30.e29 k)
noncomputable abbrev F30.c31 : Code := cL F30.code
noncomputable def F30.p13 (k : Nat) (x0 : AV) (s : Store) : Rz :=
  F30.p12 k x0 s
noncomputable abbrev F30.q13 (k : Nat) : Kz := fun fr s => F30.p13 k (fr 0) s
theorem F30.e31 (k : Nat) : F30.X k F30.c31 (F30.q12 k) xN = (F30.q13 k) := lE
theorem F30.e32 (k : Nat) : F30.X k F30.code (retK Try.prog F30.rs) xN = (F30.q13 k) := seqE (F30.e30 k) (F30.e31 k)
noncomputable def F30.f (k : Nat) (a0 : AV) (s : Store) : Rz := F30.p13 k a0 s
theorem F30.eq (k : Nat) (a0 : AV) (s : Store) : rn (k + 1) 30 [a0] s = F30.f k a0 s :=
  (rn_eq Try.func30 (by kernel_rfl) (by kernel_rfl) (by kernel_rfl) k s (by kernel_rfl)).trans (congrFun (congrFun (F30.e32 k) (frOf [a0])) s)

/-! unison/crc.Fits: function 41 -/
noncomputable def F41.code : Code := bodyOf Try.f41
noncomputable def F41.rs : List ResultVar := Try.f41.results.toList
noncomputable abbrev F41.X (k : Nat) (c : Code) (n : Kz) (x : Nat → Kz) : Kz := exec Try.prog (rn k) k 27 c ⟨n, x, retK Try.prog F41.rs⟩
noncomputable abbrev F41.c0 : Code := cR F41.code
noncomputable abbrev F41.c1 : Code := cR F41.c0
noncomputable abbrev F41.c2 : Code := cR F41.c1
noncomputable abbrev F41.c3 : Code := cR F41.c2
noncomputable def F41.p0 (k : Nat) (x0 x4 : AV) (s : Store) : Rz :=
  aBuild [] [] fun c1 => aSliceSl 1 x0 none (some x4) fun v2 => aAppend 1 1 (AV.sl s.next 0 0 1 0) v2 (s.push (.cells c1 false)) fun v3 s4 => some (AV.tuple [v3, (AV.int .i64 0)], s4)
noncomputable abbrev F41.q0 (k : Nat) : Kz := fun fr s => F41.p0 k (fr 0) (fr 4) s
theorem F41.e0 (k : Nat) : F41.X k F41.c3 (retK Try.prog F41.rs) xN = (F41.q0 k) := lE
noncomputable abbrev F41.c4 : Code := cL F41.c2
noncomputable abbrev F41.c5 : Code := cR F41.c4
noncomputable def F41.p1 (k : Nat) (x0 x4 x21 : AV) (s : Store) : Rz :=
  aIf x21 (some (AV.tuple [AV.nilsl, (AV.int .i64 5)], s)) (F41.p0 k x0 x4 s)
noncomputable abbrev F41.q1 (k : Nat) : Kz := fun fr s => F41.p1 k (fr 0) (fr 4) (fr 21) s
theorem F41.e1 (k : Nat) : F41.X k F41.c5 (F41.q0 k) xN = (F41.q1 k) := lE
noncomputable abbrev F41.c6 : Code := cL F41.c4
noncomputable def F41.p2 (k : Nat) (x0 x4 : AV) (s : Store) : Rz :=
  (some (x0, s)).bind fun q1 => (some (x4, q1.2)).bind fun q2 => (aSliceSl 1 q1.1 none (some q2.1) fun v4 => some (v4, q2.2)).bind fun q3 => (aBuild [(0, 1, q3.1)] [AV.nilsl] fun c6 => some ((AV.sl q3.2.next 0 1 1 1), (q3.2.push (.cells c6 false)))).bind fun q5 => ((rn k 54 [q5.1] q5.2).bind fun q8 => some (q8.1, q8.2)).bind fun q7 => ((rn k 53 [q7.1] q7.2).bind fun q10 => some (q10.1, q10.2)).bind fun q9 => (aStrOf q9.1 q9.2 fun v12 => some (v12, q9.2)).bind fun q11 => (some (x0, q11.2)).bind fun q13 => (some (x4, q13.2)).bind fun q14 => (aSliceSl 1 q13.1 (some q14.1) none fun v16 => some (v16, q14.2)).bind fun q15 => (aStrOf q15.1 q15.2 fun v18 => some (v18, q15.2)).bind fun q17 => (aStrOf q15.1 q7.2 fun v19 => some (v19, q7.2)).bind fun z22 => aSame z22.1 q17.1 <| (aStrOf q15.1 q5.2 fun v20 => some (v20, q5.2)).bind fun z23 => aSame z23.1 q17.1 <| (aStrOf q15.1 q3.2 fun v21 => some (v21, q3.2)).bind fun z24 => aSame z24.1 q17.1 <| (aBin .neq q11.1 q17.1 fun v26 => some (v26, q17.2)).bind fun q25 => F41.p1 k x0 x4 q25.1 q25.2
noncomputable abbrev F41.q2 (k : Nat) : Kz := fun fr s => F41.p2 k (fr 0) (fr 4) s
theorem F41.e2 (k : Nat) : F41.X k F41.c6 (F41.q1 k) xN = (F41.q2 k) := drawE [0, 0, 3, 7, 15, 31, 63, 0, 0, 384, 896, 2047]
theorem F41.e3 (k : Nat) : F41.X k F41.c4 (F41.q0 k) xN = (F41.q2 k) := seqE (F41.e1 k) (F41.e2 k)
theorem F41.e4 (k : Nat) : F41.X k F41.c2 (retK Try.prog F41.rs) xN = (F41.q2 k) := seqE (F41.e0 k) (F41.e3 k)
noncomputable abbrev F41.c7 : Code := cL F41.c1
noncomputable def F41.p3 (k : Nat) (x0 x4 : AV) (s : Store) : Rz :=
  aBin .lss x4 (AV.int .i64 0) fun v1 => aIf v1 (some (AV.tuple [AV.nilsl, (AV.int .i64 2)], s)) (F41.p2 k x0 x4 s)
noncomputable abbrev F41.q3 (k : Nat) : Kz := fun fr s => F41.p3 k (fr 0) (fr 4) s
theorem F41.e5 (k : Nat) : F41.X k F41.c7 (F41.q2 k) xN = (F41.q3 k) := lE
theorem F41.e6 (k : Nat) : F41.X k F41.c1 (retK Try.prog F41.rs) xN = (F41.q3 k) := seqE (F41.e4 k) (F41.e5 k)
noncomputable abbrev F41.c8 : Code := cL F41.c0
noncomputable def F41.p4 (k : Nat) (x0 : AV) (s : Store) : Rz :=
  aLen x0 fun v1 => aBin .sub v1 (AV.int .i64 4) fun v2 => F41.p3 k x0 v2 s
noncomputable abbrev F41.q4 (k : Nat) : Kz := fun fr s => F41.p4 k (fr 0) s
theorem F41.e7 (k : Nat) : F41.X k F41.c8 (F41.q3 k) xN = (F41.q4 k) := lE
theorem F41.e8 (k : Nat) : F41.X k F41.c0 (retK Try.prog F41.rs) xN = (F41.q4 k) := seqE (F41.e6 k) (F41.e7 k)
noncomputable abbrev F41.c9 : Code := cL F41.code
noncomputable def F41.p5 (k : Nat) (x0 : AV) (s : Store) : Rz :=
  F41.p4 k x0 s
noncomputable abbrev F41.q5 (k : Nat) : Kz := fun fr s => F41.p5 k (fr 0) s
theorem F41.e9 (k : Nat) : F41.X k F41.c9 (F41.q4 k) xN = (F41.q5 k) := lE
theorem F41.e10 (k : Nat) : F41.X k F41.code (retK Try.prog F41.rs) xN = (F41.q5 k) := seqE (F41.e8 k) (F41.e9 k)
noncomputable def F41.f (k : Nat) (a0 : AV) (s : Store) : Rz := F41.p5 k a0 s
theorem F41.eq (k : Nat) (a0 : AV) (s : Store) : rn (k + 1) 41 [a0] s = F41.f k a0 s :=
  (rn_eq Try.func41 (by kernel_rfl) (by kernel_rfl) (by kernel_rfl) k s (by kernel_rfl)).trans (congrFun (congrFun (F41.e10 k) (frOf [a0])) s)

/-! (*unison/num.Reader).ready: function 61 -/
noncomputable def F61.code : Code := bodyOf Try.f61
noncomputable def F61.rs : List ResultVar := Try.f61.results.toList
noncomputable abbrev F61.X (k : Nat) (c : Code) (n : Kz) (x : Nat → Kz) : Kz := exec Try.prog (rn k) k 12 c ⟨n, x, retK Try.prog F61.rs⟩
noncomputable def F61.p0 (k : Nat) (x0 : AV) (s : Store) : Rz :=
  aEq .ptr x0 AV.nilptr fun b1 => (aGuard (AV.bool (!b1)) true (some (x0, s)) (some (AV.tuple [], s))).bind fun g2 => (aGuard (AV.bool (!b1)) true (aNilCheck g2.1 fun v4 => some (v4, g2.2)) (some (AV.tuple [], g2.2))).bind fun g3 => (aGuard (AV.bool (!b1)) true (aFieldAddr 1 g3.1 fun v6 => some (v6, g3.2)) (some (AV.tuple [], g3.2))).bind fun g5 => (aGuard (AV.bool (!b1)) true (aLoad1 g5.1 g5.2 fun v8 => some (v8, g5.2)) (some (AV.tuple [], g5.2))).bind fun g7 => (aGuard (AV.bool (!b1)) true (aBin .eql g7.1 (AV.int .i64 0) fun v10 => some (v10, g7.2)) (some (AV.tuple [], g7.2))).bind fun g9 => aPick (AV.bool (!b1)) g9.1 (AV.bool false) fun v11 => some (v11, g9.2)
noncomputable abbrev F61.q0 (k : Nat) : Kz := fun fr s => F61.p0 k (fr 0) s
theorem F61.e0 (k : Nat) : F61.X k F61.code (retK Try.prog F61.rs) xN = (F61.q0 k) := lE
noncomputable def F61.f (k : Nat) (a0 : AV) (s : Store) : Rz := F61.p0 k a0 s
theorem F61.eq (k : Nat) (a0 : AV) (s : Store) : rn (k + 1) 61 [a0] s = F61.f k a0 s :=
  (rn_eq Try.func61 (by kernel_rfl) (by kernel_rfl) (by kernel_rfl) k s (by kernel_rfl)).trans (congrFun (congrFun (F61.e0 k) (frOf [a0])) s)

/-! unison/num.number: function 62 -/
noncomputable def F62.code : Code := bodyOf Try.f62
noncomputable def F62.rs : List ResultVar := Try.f62.results.toList
noncomputable abbrev F62.X (k : Nat) (c : Code) (n : Kz) (x : Nat → Kz) : Kz := exec Try.prog (rn k) k 60 c ⟨n, x, retK Try.prog F62.rs⟩
noncomputable abbrev F62.c0 : Code := cR F62.code
noncomputable abbrev F62.c1 : Code := cR F62.c0
noncomputable abbrev F62.c2 : Code := cR F62.c1
noncomputable abbrev F62.c3 : Code := cR F62.c2
noncomputable abbrev F62.c4 : Code := cR F62.c3
noncomputable abbrev F62.c5 : Code := cR F62.c4
noncomputable abbrev F62.c6 : Code := cR F62.c5
noncomputable abbrev F62.c7 : Code := cR F62.c6
noncomputable abbrev F62.c8 : Code := cR F62.c7
noncomputable def F62.p0 (k : Nat) (x4 x5 x6 : AV) (s : Store) : Rz :=
  some (AV.tuple [x4, x5, x6], s)
noncomputable abbrev F62.q0 (k : Nat) : Kz := fun fr s => F62.p0 k (fr 4) (fr 5) (fr 6) s
theorem F62.e0 (k : Nat) : F62.X k F62.c8 (retK Try.prog F62.rs) xN = (F62.q0 k) := lE
noncomputable abbrev F62.c9 : Code := cL F62.c7
noncomputable def F62.p1 (k : Nat) (x0 x7 x8 : AV) (s : Store) : Rz :=
  (some (x8, s)).bind fun q1 => (some (x0, q1.2)).bind fun q2 => (some (x7, q2.2)).bind fun q3 => (aSliceSl 1 q2.1 (some q3.1) none fun v5 => some (v5, q3.2)).bind fun q4 => (some (q1.1, q4.2)).bind fun q6 => (some (q4.1, q6.2)).bind fun q7 => (some ((AV.int .i64 0), q7.2)).bind fun q8 => F62.p0 k q6.1 q7.1 q8.1 q8.2
noncomputable abbrev F62.q1 (k : Nat) : Kz := fun fr s => F62.p1 k (fr 0) (fr 7) (fr 8) s
theorem F62.e1 (k : Nat) : F62.X k F62.c9 (F62.q0 k) xN = (F62.q1 k) := drawE [0, 0, 0, 6, 1, 31, 63]
theorem F62.e2 (k : Nat) : F62.X k F62.c7 (retK Try.prog F62.rs) xN = (F62.q1 k) := seqE (F62.e0 k) (F62.e1 k)
noncomputable abbrev F62.c10 : Code := cL F62.c6
noncomputable def F62.p2 (k : Nat) (x0 x1 x7 x8 : AV) (s : Store) : Rz :=
  aBin .gtr x8 x1 fun v1 => aIf v1 (some (AV.tuple [(AV.int .u64 0), AV.nilsl, (AV.int .i64 6)], s)) (F62.p1 k x0 x7 x8 s)
noncomputable abbrev F62.q2 (k : Nat) : Kz := fun fr s => F62.p2 k (fr 0) (fr 1) (fr 7) (fr 8) s
theorem F62.e3 (k : Nat) : F62.X k F62.c10 (F62.q1 k) xN = (F62.q2 k) := lE
theorem F62.e4 (k : Nat) : F62.X k F62.c6 (retK Try.prog F62.rs) xN = (F62.q2 k) := seqE (F62.e2 k) (F62.e3 k)
noncomputable abbrev F62.c11 : Code := cL F62.c5
noncomputable abbrev F62.c12 : Code := cR F62.c11
noncomputable abbrev F62.x0 (k : Nat) : Nat → Kz := xB 1 (F62.q2 k) xN
noncomputable abbrev F62.c13 : Code := cB F62.c12
noncomputable abbrev F62.c14 : Code := cB F62.c13
noncomputable abbrev F62.c15 : Code := cR F62.c14
noncomputable abbrev F62.c16 : Code := cR F62.c15
noncomputable abbrev F62.c17 : Code := cR F62.c16
noncomputable def F62.p3 (k : Nat) (R0 : Ar6) (x0 x1 x7 x8 x38 x39 : AV) (s : Store) : Rz :=
  aBin .add x39 (AV.int .i64 1) fun v1 => R0 x0 x1 x7 x8 x38 v1 s
noncomputable abbrev F62.q3 (k : Nat) (R0 : Ar6) : Kz := fun fr s => F62.p3 k R0 (fr 0) (fr 1) (fr 7) (fr 8) (fr 38) (fr 39) s
theorem F62.e5 (k : Nat) (R0 : Ar6) : F62.X k F62.c17 (fun fr s => R0 (fr 0) (fr 1) (fr 7) (fr 8) (fr 38) (fr 39) s) (F62.x0 k) = (F62.q3 k R0) := lE
noncomputable abbrev F62.c18 : Code := cL F62.c16
noncomputable abbrev F62.x1 (k : Nat) (R0 : Ar6) : Nat → Kz := xB 2 (F62.q3 k R0) (F62.x0 k)
noncomputable abbrev F62.c19 : Code := cB F62.c18
noncomputable def F62.p4 (k : Nat) (R0 : Ar6) (x0 x1 x7 x8 x38 x39 : AV) (s : Store) : Rz :=
  aIndexSl 1 x0 x39 fun v1 => aLoad1 v1 s fun v2 => aConvInt .u64 v2 fun v3 => aBin .mul (AV.int .i64 8) x39 fun v4 => aShift .shl v3 v4 fun v5 => aBin .or x8 v5 fun v6 => F62.p3 k R0 x0 x1 x7 v6 x38 x39 s
noncomputable abbrev F62.q4 (k : Nat) (R0 : Ar6) : Kz := fun fr s => F62.p4 k R0 (fr 0) (fr 1) (fr 7) (fr 8) (fr 38) (fr 39) s
theorem F62.e6 (k : Nat) (R0 : Ar6) : F62.X k F62.c19 (F62.q3 k R0) (F62.x1 k R0) = (F62.q4 k R0) := lE
theorem F62.e7 (k : Nat) (R0 : Ar6) : F62.X k F62.c18 (F62.q3 k R0) (F62.x0 k) = (F62.q4 k R0) := blockE (i := 2) (F62.e6 k R0)
theorem F62.e8 (k : Nat) (R0 : Ar6) : F62.X k F62.c16 (fun fr s => R0 (fr 0) (fr 1) (fr 7) (fr 8) (fr 38) (fr 39) s) (F62.x0 k) = (F62.q4 k R0) := seqE (F62.e5 k R0) (F62.e7 k R0)
noncomputable abbrev F62.c20 : Code := cL F62.c15
noncomputable def F62.p5 (k : Nat) (R0 : Ar6) (x0 x1 x7 x8 x38 x39 x40 : AV) (s : Store) : Rz :=
  aIf x40 (F62.p4 k R0 x0 x1 x7 x8 x38 x39 s) (F62.p2 k x0 x1 x7 x8 s)
noncomputable abbrev F62.q5 (k : Nat) (R0 : Ar6) : Kz := fun fr s => F62.p5 k R0 (fr 0) (fr 1) (fr 7) (fr 8) (fr 38) (fr 39) (fr 40) s
theorem F62.e9 (k : Nat) (R0 : Ar6) : F62.X k F62.c20 (F62.q4 k R0) (F62.x0 k) = (F62.q5 k R0) := lE
theorem F62.e10 (k : Nat) (R0 : Ar6) : F62.X k F62.c15 (fun fr s => R0 (fr 0) (fr 1) (fr 7) (fr 8) (fr 38) (fr 39) s) (F62.x0 k) = (F62.q5 k R0) := seqE (F62.e8 k R0) (F62.e9 k R0)
noncomputable abbrev F62.c21 : Code := cL F62.c14
noncomputable def F62.p6 (k : Nat) (R0 : Ar6) (x0 x1 x7 x8 x38 x39 : AV) (s : Store) : Rz :=
  aBin .lss x39 x38 fun v1 => F62.p5 k R0 x0 x1 x7 x8 x38 x39 v1 s
noncomputable abbrev F62.q6 (k : Nat) (R0 : Ar6) : Kz := fun fr s => F62.p6 k R0 (fr 0) (fr 1) (fr 7) (fr 8) (fr 38) (fr 39) s
theorem F62.e11 (k : Nat) (R0 : Ar6) : F62.X k F62.c21 (F62.q5 k R0) (F62.x0 k) = (F62.q6 k R0) := lE
theorem F62.e12 (k : Nat) (R0 : Ar6) : F62.X k F62.c14 (fun fr s => R0 (fr 0) (fr 1) (fr 7) (fr 8) (fr 38) (fr 39) s) (F62.x0 k) = (F62.q6 k R0) := seqE (F62.e10 k R0) (F62.e11 k R0)
noncomputable def F62.l0 (k : Nat) : Nat → Ar6 := iterF (fun _ _ _ _ _ _ _ => none) (fun R0 x0 x1 x7 x8 x38 x39 s => F62.p6 k R0 x0 x1 x7 x8 x38 x39 s)
theorem F62.e13 (k : Nat) : F62.X k F62.c13 (F62.q2 k) (F62.x0 k) = (fun fr s => F62.l0 k k (fr 0) (fr 1) (fr 7) (fr 8) (fr 38) (fr 39) s) := loopE (fun R0 : Ar6 => (fun fr s => R0 (fr 0) (fr 1) (fr 7) (fr 8) (fr 38) (fr 39) s)) (z := (fun _ _ _ _ _ _ _ => none)) (B := (fun R0 x0 x1 x7 x8 x38 x39 s => F62.p6 k R0 x0 x1 x7 x8 x38 x39 s)) rfl (fun R0 => F62.e12 k R0)
theorem F62.e14 (k : Nat) : F62.X k F62.c12 (F62.q2 k) xN = (fun fr s => F62.l0 k k (fr 0) (fr 1) (fr 7) (fr 8) (fr 38) (fr 39) s) := blockE (i := 1) (F62.e13 k)
noncomputable abbrev F62.c22 : Code := cL F62.c11
noncomputable def F62.p7 (k : Nat) (x0 x1 x7 x8 : AV) (s : Store) : Rz :=
  F62.l0 k k x0 x1 x7 x8 x7 (AV.int .i64 0) s
noncomputable abbrev F62.q7 (k : Nat) : Kz := fun fr s => F62.p7 k (fr 0) (fr 1) (fr 7) (fr 8) s
theorem F62.e15 (k : Nat) : F62.X k F62.c22 (fun fr s => F62.l0 k k (fr 0) (fr 1) (fr 7) (fr 8) (fr 38) (fr 39) s) xN = (F62.q7 k) := lE
theorem F62.e16 (k : Nat) : F62.X k F62.c11 (F62.q2 k) xN = (F62.q7 k) := seqE (F62.e14 k) (F62.e15 k)
theorem F62.e17 (k : Nat) : F62.X k F62.c5 (retK Try.prog F62.rs) xN = (F62.q7 k) := seqE (F62.e4 k) (F62.e16 k)
noncomputable abbrev F62.c23 : Code := cL F62.c4
noncomputable def F62.p8 (k : Nat) (x0 x1 x7 : AV) (s : Store) : Rz :=
  F62.p7 k x0 x1 x7 (AV.int .u64 0) s
noncomputable abbrev F62.q8 (k : Nat) : Kz := fun fr s => F62.p8 k (fr 0) (fr 1) (fr 7) s
theorem F62.e18 (k : Nat) : F62.X k F62.c23 (F62.q7 k) xN = (F62.q8 k) := lE
theorem F62.e19 (k : Nat) : F62.X k F62.c4 (retK Try.prog F62.rs) xN = (F62.q8 k) := seqE (F62.e17 k) (F62.e18 k)
noncomputable abbrev F62.c24 : Code := cL F62.c3
noncomputable abbrev F62.x2 (k : Nat) : Nat → Kz := xB 0 (F62.q8 k) xN
noncomputable abbrev F62.c25 : Code := cB F62.c24
noncomputable def F62.p9 (k : Nat) (x0 x1 x7 : AV) (s : Store) : Rz :=
  aBin .gtr x7 (AV.int .i64 8) fun v1 => aIf v1 (some (AV.tuple [(AV.int .u64 0), AV.nilsl, (AV.int .i64 3)], s)) (aLen x0 fun v2 => aBin .gtr x7 v2 fun v3 => aIf v3 (some (AV.tuple [(AV.int .u64 0), AV.nilsl, (AV.int .i64 2)], s)) (aBin .gtr x7 (AV.int .i64 0) fun v4 => (aGuard v4 true (some (x0, s)) (some (AV.tuple [], s))).bind fun g5 => (aGuard v4 true (some (x7, g5.2)) (some (AV.tuple [], g5.2))).bind fun g6 => (aGuard v4 true (aBin .sub g6.1 (AV.int .i64 1) fun v8 => some (v8, g6.2)) (some (AV.tuple [], g6.2))).bind fun g7 => (aGuard v4 true (aIndexSl 1 g5.1 g7.1 fun v10 => some (v10, g7.2)) (some (AV.tuple [], g7.2))).bind fun g9 => (aGuard v4 true (aLoad1 g9.1 g9.2 fun v12 => some (v12, g9.2)) (some (AV.tuple [], g9.2))).bind fun g11 => (aGuard v4 true (aBin .eql g11.1 (AV.int .u8 0) fun v14 => some (v14, g11.2)) (some (AV.tuple [], g11.2))).bind fun g13 => aPick v4 g13.1 (AV.bool false) fun v15 => aIf v15 (some (AV.tuple [(AV.int .u64 0), AV.nilsl, (AV.int .i64 3)], g13.2)) (F62.p8 k x0 x1 x7 g13.2)))
noncomputable abbrev F62.q9 (k : Nat) : Kz := fun fr s => F62.p9 k (fr 0) (fr 1) (fr 7) s
theorem F62.e20 (k : Nat) : F62.X k F62.c25 (F62.q8 k) (F62.x2 k) = (F62.q9 k) := lE
theorem F62.e21 (k : Nat) : F62.X k F62.c24 (F62.q8 k) xN = (F62.q9 k) := blockE (i := 0) (F62.e20 k)
theorem F62.e22 (k : Nat) : F62.X k F62.c3 (retK Try.prog F62.rs) xN = (F62.q9 k) := seqE (F62.e19 k) (F62.e21 k)
noncomputable abbrev F62.c26 : Code := cL F62.c2
noncomputable def F62.p10 (k : Nat) (x0 x1 x7 : AV) (s : Store) : Rz :=
  aSliceSl 1 x0 (some (AV.int .i64 1)) none fun v1 => F62.p9 k v1 x1 x7 s
noncomputable abbrev F62.q10 (k : Nat) : Kz := fun fr s => F62.p10 k (fr 0) (fr 1) (fr 7) s
theorem F62.e23 (k : Nat) : F62.X k F62.c26 (F62.q9 k) xN = (F62.q10 k) := lE
theorem F62.e24 (k : Nat) : F62.X k F62.c2 (retK Try.prog F62.rs) xN = (F62.q10 k) := seqE (F62.e22 k) (F62.e23 k)
noncomputable abbrev F62.c27 : Code := cL F62.c1
noncomputable def F62.p11 (k : Nat) (x0 x1 : AV) (s : Store) : Rz :=
  aIndexSl 1 x0 (AV.int .i64 0) fun v1 => aLoad1 v1 s fun v2 => aConvInt .i64 v2 fun v3 => F62.p10 k x0 x1 v3 s
noncomputable abbrev F62.q11 (k : Nat) : Kz := fun fr s => F62.p11 k (fr 0) (fr 1) s
theorem F62.e25 (k : Nat) : F62.X k F62.c27 (F62.q10 k) xN = (F62.q11 k) := lE
theorem F62.e26 (k : Nat) : F62.X k F62.c1 (retK Try.prog F62.rs) xN = (F62.q11 k) := seqE (F62.e24 k) (F62.e25 k)
noncomputable abbrev F62.c28 : Code := cL F62.c0
noncomputable def F62.p12 (k : Nat) (x0 x1 : AV) (s : Store) : Rz :=
  aLen x0 fun v1 => aBin .eql v1 (AV.int .i64 0) fun v2 => aIf v2 (some (AV.tuple [(AV.int .u64 0), AV.nilsl, (AV.int .i64 2)], s)) (F62.p11 k x0 x1 s)
noncomputable abbrev F62.q12 (k : Nat) : Kz := fun fr s => F62.p12 k (fr 0) (fr 1) s
theorem F62.e27 (k : Nat) : F62.X k F62.c28 (F62.q11 k) xN = (F62.q12 k) := lE
theorem F62.e28 (k : Nat) : F62.X k F62.c0 (retK Try.prog F62.rs) xN = (F62.q12 k) := seqE (F62.e26 k) (F62.e27 k)
noncomputable abbrev F62.c29 : Code := cL F62.code
noncomputable def F62.p13 (k : Nat) (x0 x1 : AV) (s : Store) : Rz :=
  F62.p12 k x0 x1 s
noncomputable abbrev F62.q13 (k : Nat) : Kz := fun fr s => F62.p13 k (fr 0) (fr 1) s
theorem F62.e29 (k : Nat) : F62.X k F62.c29 (F62.q12 k) xN = (F62.q13 k) := lE
theorem F62.e30 (k : Nat) : F62.X k F62.code (retK Try.prog F62.rs) xN = (F62.q13 k) := seqE (F62.e28 k) (F62.e29 k)
noncomputable def F62.f (k : Nat) (a0 a1 : AV) (s : Store) : Rz := F62.p13 k a0 a1 s
theorem F62.eq (k : Nat) (a0 a1 : AV) (s : Store) : rn (k + 1) 62 [a0, a1] s = F62.f k a0 a1 s :=
  (rn_eq Try.func62 (by kernel_rfl) (by kernel_rfl) (by kernel_rfl) k s (by kernel_rfl)).trans (congrFun (congrFun (F62.e30 k) (frOf [a0, a1])) s)

/-! (*unison/num.Reader).Num: function 42 -/
noncomputable def F42.code : Code := bodyOf Try.f42
noncomputable def F42.rs : List ResultVar := Try.f42.results.toList
noncomputable abbrev F42.X (k : Nat) (c : Code) (n : Kz) (x : Nat → Kz) : Kz := exec Try.prog (rn k) k 32 c ⟨n, x, retK Try.prog F42.rs⟩
noncomputable def F42.p0 (k : Nat) (x0 x1 : AV) (s : Store) : Rz :=
  (rn k 61 [x0] s).bind fun q1 => aUn .not q1.1 fun v2 => aIf v2 (some ((AV.int .u64 0), q1.2)) (aNilCheck x0 fun v3 => aFieldAddr 0 v3 fun v4 => aLoad1 v4 q1.2 fun v5 => (rn k 62 [v5, x1] q1.2).bind fun q6 => aExtract 0 q6.1 fun v7 => aExtract 1 q6.1 fun v8 => aExtract 2 q6.1 fun v9 => aBin .neq v9 (AV.int .i64 0) fun v10 => aIf v10 (aNilCheck x0 fun v11 => aFieldAddr 1 v11 fun v12 => aStore 1 v12 v9 q6.2 fun s13 => some ((AV.int .u64 0), s13)) (aNilCheck x0 fun v14 => aFieldAddr 0 v14 fun v15 => aStore 1 v15 v8 q6.2 fun s16 => some (v7, s16)))
noncomputable abbrev F42.q0 (k : Nat) : Kz := fun fr s => F42.p0 k (fr 0) (fr 1) s
theorem F42.e0 (k : Nat) : F42.X k F42.code (retK Try.prog F42.rs) xN = (F42.q0 k) := lE
noncomputable def F42.f (k : Nat) (a0 a1 : AV) (s : Store) : Rz := F42.p0 k a0 a1 s
theorem F42.eq (k : Nat) (a0 a1 : AV) (s : Store) : rn (k + 1) 42 [a0, a1] s = F42.f k a0 a1 s :=
  (rn_eq Try.func42 (by kernel_rfl) (by kernel_rfl) (by kernel_rfl) k s (by kernel_rfl)).trans (congrFun (congrFun (F42.e0 k) (frOf [a0, a1])) s)

/-! slices.Clone[[]byte,byte]: function 45 -/
noncomputable def F45.code : Code := bodyOf Try.f45
noncomputable def F45.rs : List ResultVar := Try.f45.results.toList
noncomputable abbrev F45.X (k : Nat) (c : Code) (n : Kz) (x : Nat → Kz) : Kz := exec Try.prog (rn k) k 8 c ⟨n, x, retK Try.prog F45.rs⟩
noncomputable def F45.p0 (k : Nat) (x0 : AV) (s : Store) : Rz :=
  aEq .sl x0 AV.nilsl fun b1 => aIf (AV.bool b1) (some (AV.nilsl, s)) (aBuild [] [] fun c2 => aAppend 1 1 (AV.sl s.next 0 0 1 0) x0 (s.push (.cells c2 false)) fun v3 s4 => some (v3, s4))
noncomputable abbrev F45.q0 (k : Nat) : Kz := fun fr s => F45.p0 k (fr 0) s
theorem F45.e0 (k : Nat) : F45.X k F45.code (retK Try.prog F45.rs) xN = (F45.q0 k) := lE
noncomputable def F45.f (k : Nat) (a0 : AV) (s : Store) : Rz := F45.p0 k a0 s
theorem F45.eq (k : Nat) (a0 : AV) (s : Store) : rn (k + 1) 45 [a0] s = F45.f k a0 s :=
  (rn_eq Try.func45 (by kernel_rfl) (by kernel_rfl) (by kernel_rfl) k s (by kernel_rfl)).trans (congrFun (congrFun (F45.e0 k) (frOf [a0])) s)

/-! (*unison/num.Reader).Row: function 98 -/
noncomputable def F98.code : Code := bodyOf Try.f98
noncomputable def F98.rs : List ResultVar := Try.f98.results.toList
noncomputable abbrev F98.X (k : Nat) (c : Code) (n : Kz) (x : Nat → Kz) : Kz := exec Try.prog (rn k) k 55 c ⟨n, x, retK Try.prog F98.rs⟩
noncomputable abbrev F98.c0 : Code := cR F98.code
noncomputable abbrev F98.c1 : Code := cR F98.c0
noncomputable abbrev F98.c2 : Code := cR F98.c1
noncomputable abbrev F98.c3 : Code := cR F98.c2
noncomputable def F98.p0 (k : Nat) (s : Store) : Rz :=
  some (AV.nilsl, s)
noncomputable abbrev F98.q0 (k : Nat) : Kz := fun fr s => F98.p0 k s
theorem F98.e0 (k : Nat) : F98.X k F98.c3 (retK Try.prog F98.rs) xN = (F98.q0 k) := lE
noncomputable abbrev F98.c4 : Code := cL F98.c2
noncomputable abbrev F98.x0 (k : Nat) : Nat → Kz := xB 0 (F98.q0 k) xN
noncomputable abbrev F98.c5 : Code := cB F98.c4
noncomputable def F98.p1 (k : Nat) (x0 x1 x5 x6 x7 : AV) (s : Store) : Rz :=
  aBin .neq x7 (AV.int .i64 0) fun v1 => aIf v1 (aNilCheck x0 fun v2 => aFieldAddr 1 v2 fun v3 => aStore 1 v3 x7 s fun s4 => F98.p0 k s4) (aMaxL x1 [(AV.int .i64 0)] fun v5 => aConvInt .u64 v5 fun v6 => aBin .gtr x5 v6 fun v7 => aIf v7 (aNilCheck x0 fun v8 => aFieldAddr 1 v8 fun v9 => aStore 1 v9 (AV.int .i64 4) s fun s10 => F98.p0 k s10) (aLen x6 fun v11 => aConvInt .u64 v11 fun v12 => aBin .gtr x5 v12 fun v13 => aIf v13 (aNilCheck x0 fun v14 => aFieldAddr 1 v14 fun v15 => aStore 1 v15 (AV.int .i64 2) s fun s16 => F98.p0 k s16) (aSliceSl 1 x6 (some x5) none fun v17 => aNilCheck x0 fun v18 => aFieldAddr 0 v18 fun v19 => aStore 1 v19 v17 s fun s20 => aSliceSl 1 x6 none (some x5) fun v21 => (rn k 45 [v21] s20).bind fun q22 => some (q22.1, q22.2))))
noncomputable abbrev F98.q1 (k : Nat) : Kz := fun fr s => F98.p1 k (fr 0) (fr 1) (fr 5) (fr 6) (fr 7) s
theorem F98.e1 (k : Nat) : F98.X k F98.c5 (F98.q0 k) (F98.x0 k) = (F98.q1 k) := lE
theorem F98.e2 (k : Nat) : F98.X k F98.c4 (F98.q0 k) xN = (F98.q1 k) := blockE (i := 0) (F98.e1 k)
theorem F98.e3 (k : Nat) : F98.X k F98.c2 (retK Try.prog F98.rs) xN = (F98.q1 k) := seqE (F98.e0 k) (F98.e2 k)
noncomputable abbrev F98.c6 : Code := cL F98.c1
noncomputable def F98.p2 (k : Nat) (x0 x1 : AV) (s : Store) : Rz :=
  aNilCheck x0 fun v1 => aFieldAddr 0 v1 fun v2 => aLoad1 v2 s fun v3 => (rn k 62 [v3, (AV.int .u64 18446744073709551615)] s).bind fun q4 => aExtract 0 q4.1 fun v5 => aExtract 1 q4.1 fun v6 => aExtract 2 q4.1 fun v7 => F98.p1 k x0 x1 v5 v6 v7 q4.2
noncomputable abbrev F98.q2 (k : Nat) : Kz := fun fr s => F98.p2 k (fr 0) (fr 1) s
theorem F98.e4 (k : Nat) : F98.X k F98.c6 (F98.q1 k) xN = (F98.q2 k) := lE
theorem F98.e5 (k : Nat) : F98.X k F98.c1 (retK Try.prog F98.rs) xN = (F98.q2 k) := seqE (F98.e3 k) (F98.e4 k)
noncomputable abbrev F98.c7 : Code := cL F98.c0
noncomputable def F98.p3 (k : Nat) (x0 x1 : AV) (s : Store) : Rz :=
  (rn k 61 [x0] s).bind fun q1 => aUn .not q1.1 fun v2 => aIf v2 (some (AV.nilsl, q1.2)) (F98.p2 k x0 x1 q1.2)
noncomputable abbrev F98.q3 (k : Nat) : Kz := fun fr s => F98.p3 k (fr 0) (fr 1) s
theorem F98.e6 (k : Nat) : F98.X k F98.c7 (F98.q2 k) xN = (F98.q3 k) := lE
theorem F98.e7 (k : Nat) : F98.X k F98.c0 (retK Try.prog F98.rs) xN = (F98.q3 k) := seqE (F98.e5 k) (F98.e6 k)
noncomputable abbrev F98.c8 : Code := cL F98.code
noncomputable def F98.p4 (k : Nat) (x0 x1 : AV) (s : Store) : Rz :=
  F98.p3 k x0 x1 s
noncomputable abbrev F98.q4 (k : Nat) : Kz := fun fr s => F98.p4 k (fr 0) (fr 1) s
theorem F98.e8 (k : Nat) : F98.X k F98.c8 (F98.q3 k) xN = (F98.q4 k) := lE
theorem F98.e9 (k : Nat) : F98.X k F98.code (retK Try.prog F98.rs) xN = (F98.q4 k) := seqE (F98.e7 k) (F98.e8 k)
noncomputable def F98.f (k : Nat) (a0 a1 : AV) (s : Store) : Rz := F98.p4 k a0 a1 s
theorem F98.eq (k : Nat) (a0 a1 : AV) (s : Store) : rn (k + 1) 98 [a0, a1] s = F98.f k a0 a1 s :=
  (rn_eq Try.func98 (by kernel_rfl) (by kernel_rfl) (by kernel_rfl) k s (by kernel_rfl)).trans (congrFun (congrFun (F98.e9 k) (frOf [a0, a1])) s)

/-! (*unison/num.Reader).Left: function 43 -/
noncomputable def F43.code : Code := bodyOf Try.f43
noncomputable def F43.rs : List ResultVar := Try.f43.results.toList
noncomputable abbrev F43.X (k : Nat) (c : Code) (n : Kz) (x : Nat → Kz) : Kz := exec Try.prog (rn k) k 10 c ⟨n, x, retK Try.prog F43.rs⟩
noncomputable def F43.p0 (k : Nat) (x0 : AV) (s : Store) : Rz :=
  aEq .ptr x0 AV.nilptr fun b1 => aIf (AV.bool b1) (some ((AV.int .i64 0), s)) (aNilCheck x0 fun v2 => aFieldAddr 0 v2 fun v3 => aLoad1 v3 s fun v4 => aLen v4 fun v5 => some (v5, s))
noncomputable abbrev F43.q0 (k : Nat) : Kz := fun fr s => F43.p0 k (fr 0) s
theorem F43.e0 (k : Nat) : F43.X k F43.code (retK Try.prog F43.rs) xN = (F43.q0 k) := lE
noncomputable def F43.f (k : Nat) (a0 : AV) (s : Store) : Rz := F43.p0 k a0 s
theorem F43.eq (k : Nat) (a0 : AV) (s : Store) : rn (k + 1) 43 [a0] s = F43.f k a0 s :=
  (rn_eq Try.func43 (by kernel_rfl) (by kernel_rfl) (by kernel_rfl) k s (by kernel_rfl)).trans (congrFun (congrFun (F43.e0 k) (frOf [a0])) s)

/-! (*unison/num.Reader).Err: function 44 -/
noncomputable def F44.code : Code := bodyOf Try.f44
noncomputable def F44.rs : List ResultVar := Try.f44.results.toList
noncomputable abbrev F44.X (k : Nat) (c : Code) (n : Kz) (x : Nat → Kz) : Kz := exec Try.prog (rn k) k 9 c ⟨n, x, retK Try.prog F44.rs⟩
noncomputable def F44.p0 (k : Nat) (x0 : AV) (s : Store) : Rz :=
  aEq .ptr x0 AV.nilptr fun b1 => aIf (AV.bool b1) (some ((AV.int .i64 0), s)) (aNilCheck x0 fun v2 => aFieldAddr 1 v2 fun v3 => aLoad1 v3 s fun v4 => some (v4, s))
noncomputable abbrev F44.q0 (k : Nat) : Kz := fun fr s => F44.p0 k (fr 0) s
theorem F44.e0 (k : Nat) : F44.X k F44.code (retK Try.prog F44.rs) xN = (F44.q0 k) := lE
noncomputable def F44.f (k : Nat) (a0 : AV) (s : Store) : Rz := F44.p0 k a0 s
theorem F44.eq (k : Nat) (a0 : AV) (s : Store) : rn (k + 1) 44 [a0] s = F44.f k a0 s :=
  (rn_eq Try.func44 (by kernel_rfl) (by kernel_rfl) (by kernel_rfl) k s (by kernel_rfl)).trans (congrFun (congrFun (F44.e0 k) (frOf [a0])) s)

/-! (*unison/num.Reader).End: function 20 -/
noncomputable def F20.code : Code := bodyOf Try.f20
noncomputable def F20.rs : List ResultVar := Try.f20.results.toList
noncomputable abbrev F20.X (k : Nat) (c : Code) (n : Kz) (x : Nat → Kz) : Kz := exec Try.prog (rn k) k 13 c ⟨n, x, retK Try.prog F20.rs⟩
noncomputable def F20.p0 (k : Nat) (x0 : AV) (s : Store) : Rz :=
  (rn k 44 [x0] s).bind fun q1 => aBin .eql q1.1 (AV.int .i64 0) fun v2 => (aGuard v2 true (some (x0, q1.2)) (some (AV.tuple [], q1.2))).bind fun g3 => (aGuard v2 true ((rn k 43 [g3.1] g3.2).bind fun q5 => some (q5.1, q5.2)) (some (AV.tuple [], g3.2))).bind fun g4 => (aGuard v2 true (aBin .gtr g4.1 (AV.int .i64 0) fun v7 => some (v7, g4.2)) (some (AV.tuple [], g4.2))).bind fun g6 => aPick v2 g6.1 (AV.bool false) fun v8 => aIf v8 (some ((AV.int .i64 4), g6.2)) ((rn k 44 [x0] g6.2).bind fun q9 => some (q9.1, q9.2))
noncomputable abbrev F20.q0 (k : Nat) : Kz := fun fr s => F20.p0 k (fr 0) s
theorem F20.e0 (k : Nat) : F20.X k F20.code (retK Try.prog F20.rs) xN = (F20.q0 k) := lE
noncomputable def F20.f (k : Nat) (a0 : AV) (s : Store) : Rz := F20.p0 k a0 s
theorem F20.eq (k : Nat) (a0 : AV) (s : Store) : rn (k + 1) 20 [a0] s = F20.f k a0 s :=
  (rn_eq Try.func20 (by kernel_rfl) (by kernel_rfl) (by kernel_rfl) k s (by kernel_rfl)).trans (congrFun (congrFun (F20.e0 k) (frOf [a0])) s)

/-! math/bits.Len64: function 70 -/
noncomputable def F70.code : Code := bodyOf Try.f70
noncomputable def F70.rs : List ResultVar := Try.f70.results.toList
noncomputable abbrev F70.X (k : Nat) (c : Code) (n : Kz) (x : Nat → Kz) : Kz := exec Try.prog (rn k) k 25 c ⟨n, x, retK Try.prog F70.rs⟩
noncomputable abbrev F70.c0 : Code := cR F70.code
noncomputable abbrev F70.c1 : Code := cR F70.c0
noncomputable abbrev F70.c2 : Code := cR F70.c1
noncomputable abbrev F70.c3 : Code := cR F70.c2
noncomputable def F70.p0 (k : Nat) (x0 x2 : AV) (s : Store) : Rz :=
  aConvInt .u8 x0 fun v1 => aIndexStr (AV.str ⟨#[0, 1, 2, 2, 3, 3, 3, 3, 4, 4, 4, 4, 4, 4, 4, 4, 5, 5, 5, 5, 5, 5, 5, 5, 5, 5, 5, 5, 5, 5, 5, 5, 6, 6, 6, 6, 6, 6, 6, 6, 6, 6, 6, 6, 6, 6, 6, 6, 6, 6, 6, 6, 6, 6, 6, 6, 6, 6, 6, 6, 6, 6, 6, 6, 7, 7, 7, 7, 7, 7, 7, 7, 7, 7, 7, 7, 7, 7, 7, 7, 7, 7, 7, 7, 7, 7, 7, 7, 7, 7, 7, 7, 7, 7, 7, 7, 7, 7, 7, 7, 7, 7, 7, 7, 7, 7, 7, 7, 7, 7, 7, 7, 7, 7, 7, 7, 7, 7, 7, 7, 7, 7, 7, 7, 7, 7, 7, 7, 8, 8, 8, 8, 8, 8, 8, 8, 8, 8, 8, 8, 8, 8, 8, 8, 8, 8, 8, 8, 8, 8, 8, 8, 8, 8, 8, 8, 8, 8, 8, 8, 8, 8, 8, 8, 8, 8, 8, 8, 8, 8, 8, 8, 8, 8, 8, 8, 8, 8, 8, 8, 8, 8, 8, 8, 8, 8, 8, 8, 8, 8, 8, 8, 8, 8, 8, 8, 8, 8, 8, 8, 8, 8, 8, 8, 8, 8, 8, 8, 8, 8, 8, 8, 8, 8, 8, 8, 8, 8, 8, 8, 8, 8, 8, 8, 8, 8, 8, 8, 8, 8, 8, 8, 8, 8, 8, 8, 8, 8, 8, 8, 8, 8, 8, 8, 8, 8, 8, 8, 8, 8, 8, 8, 8, 8, 8, 8]⟩) v1 fun v2 => aConvInt .i64 v2 fun v3 => aBin .add x2 v3 fun v4 => some (v4, s)
noncomputable abbrev F70.q0 (k : Nat) : Kz := fun fr s => F70.p0 k (fr 0) (fr 2) s
theorem F70.e0 (k : Nat) : F70.X k F70.c3 (retK Try.prog F70.rs) xN = (F70.q0 k) := lE
noncomputable abbrev F70.c4 : Code := cL F70.c2
noncomputable def F70.p1 (k : Nat) (x0 x2 : AV) (s : Store) : Rz :=
  aBin .geq x0 (AV.int .u64 256) fun v1 => aIf v1 (aShift .shr x0 (AV.int .u64 8) fun v2 => aBin .add x2 (AV.int .i64 8) fun v3 => F70.p0 k v2 v3 s) (F70.p0 k x0 x2 s)
noncomputable abbrev F70.q1 (k : Nat) : Kz := fun fr s => F70.p1 k (fr 0) (fr 2) s
theorem F70.e1 (k : Nat) : F70.X k F70.c4 (F70.q0 k) xN = (F70.q1 k) := lE
theorem F70.e2 (k : Nat) : F70.X k F70.c2 (retK Try.prog F70.rs) xN = (F70.q1 k) := seqE (F70.e0 k) (F70.e1 k)
noncomputable abbrev F70.c5 : Code := cL F70.c1
noncomputable def F70.p2 (k : Nat) (x0 x2 : AV) (s : Store) : Rz :=
  aBin .geq x0 (AV.int .u64 65536) fun v1 => aIf v1 (aShift .shr x0 (AV.int .u64 16) fun v2 => aBin .add x2 (AV.int .i64 16) fun v3 => F70.p1 k v2 v3 s) (F70.p1 k x0 x2 s)
noncomputable abbrev F70.q2 (k : Nat) : Kz := fun fr s => F70.p2 k (fr 0) (fr 2) s
theorem F70.e3 (k : Nat) : F70.X k F70.c5 (F70.q1 k) xN = (F70.q2 k) := lE
theorem F70.e4 (k : Nat) : F70.X k F70.c1 (retK Try.prog F70.rs) xN = (F70.q2 k) := seqE (F70.e2 k) (F70.e3 k)
noncomputable abbrev F70.c6 : Code := cL F70.c0
noncomputable def F70.p3 (k : Nat) (x0 x2 : AV) (s : Store) : Rz :=
  aBin .geq x0 (AV.int .u64 4294967296) fun v1 => aIf v1 (aShift .shr x0 (AV.int .u64 32) fun v2 => F70.p2 k v2 (AV.int .i64 32) s) (F70.p2 k x0 x2 s)
noncomputable abbrev F70.q3 (k : Nat) : Kz := fun fr s => F70.p3 k (fr 0) (fr 2) s
theorem F70.e5 (k : Nat) : F70.X k F70.c6 (F70.q2 k) xN = (F70.q3 k) := lE
theorem F70.e6 (k : Nat) : F70.X k F70.c0 (retK Try.prog F70.rs) xN = (F70.q3 k) := seqE (F70.e4 k) (F70.e5 k)
noncomputable abbrev F70.c7 : Code := cL F70.code
noncomputable def F70.p4 (k : Nat) (x0 : AV) (s : Store) : Rz :=
  F70.p3 k x0 (AV.int .i64 0) s
noncomputable abbrev F70.q4 (k : Nat) : Kz := fun fr s => F70.p4 k (fr 0) s
theorem F70.e7 (k : Nat) : F70.X k F70.c7 (F70.q3 k) xN = (F70.q4 k) := lE
theorem F70.e8 (k : Nat) : F70.X k F70.code (retK Try.prog F70.rs) xN = (F70.q4 k) := seqE (F70.e6 k) (F70.e7 k)
noncomputable def F70.f (k : Nat) (a0 : AV) (s : Store) : Rz := F70.p4 k a0 s
theorem F70.eq (k : Nat) (a0 : AV) (s : Store) : rn (k + 1) 70 [a0] s = F70.f k a0 s :=
  (rn_eq Try.func70 (by kernel_rfl) (by kernel_rfl) (by kernel_rfl) k s (by kernel_rfl)).trans (congrFun (congrFun (F70.e8 k) (frOf [a0])) s)

/-! unison/num.width: function 64 -/
noncomputable def F64.code : Code := bodyOf Try.f64
noncomputable def F64.rs : List ResultVar := Try.f64.results.toList
noncomputable abbrev F64.X (k : Nat) (c : Code) (n : Kz) (x : Nat → Kz) : Kz := exec Try.prog (rn k) k 7 c ⟨n, x, retK Try.prog F64.rs⟩
noncomputable def F64.p0 (k : Nat) (x0 : AV) (s : Store) : Rz :=
  (rn k 70 [x0] s).bind fun q1 => aBin .add q1.1 (AV.int .i64 7) fun v2 => aBin .quo v2 (AV.int .i64 8) fun v3 => some (v3, q1.2)
noncomputable abbrev F64.q0 (k : Nat) : Kz := fun fr s => F64.p0 k (fr 0) s
theorem F64.e0 (k : Nat) : F64.X k F64.code (retK Try.prog F64.rs) xN = (F64.q0 k) := lE
noncomputable def F64.f (k : Nat) (a0 : AV) (s : Store) : Rz := F64.p0 k a0 s
theorem F64.eq (k : Nat) (a0 : AV) (s : Store) : rn (k + 1) 64 [a0] s = F64.f k a0 s :=
  (rn_eq Try.func64 (by kernel_rfl) (by kernel_rfl) (by kernel_rfl) k s (by kernel_rfl)).trans (congrFun (congrFun (F64.e0 k) (frOf [a0])) s)

/-! unison/num.put: function 55 -/
noncomputable def F55.code : Code := bodyOf Try.f55
noncomputable def F55.rs : List ResultVar := Try.f55.results.toList
noncomputable abbrev F55.X (k : Nat) (c : Code) (n : Kz) (x : Nat → Kz) : Kz := exec Try.prog (rn k) k 25 c ⟨n, x, retK Try.prog F55.rs⟩
noncomputable abbrev F55.c0 : Code := cR F55.code
noncomputable abbrev F55.c1 : Code := cR F55.c0
noncomputable abbrev F55.c2 : Code := cR F55.c1
noncomputable abbrev F55.c3 : Code := cR F55.c2
noncomputable def F55.p0 (k : Nat) (x0 : AV) (s : Store) : Rz :=
  some (x0, s)
noncomputable abbrev F55.q0 (k : Nat) : Kz := fun fr s => F55.p0 k (fr 0) s
theorem F55.e0 (k : Nat) : F55.X k F55.c3 (retK Try.prog F55.rs) xN = (F55.q0 k) := lE
noncomputable abbrev F55.c4 : Code := cL F55.c2
noncomputable abbrev F55.c5 : Code := cR F55.c4
noncomputable abbrev F55.x0 (k : Nat) : Nat → Kz := xB 0 (F55.q0 k) xN
noncomputable abbrev F55.c6 : Code := cB F55.c5
noncomputable abbrev F55.c7 : Code := cB F55.c6
noncomputable abbrev F55.c8 : Code := cR F55.c7
noncomputable abbrev F55.c9 : Code := cR F55.c8
noncomputable abbrev F55.c10 : Code := cR F55.c9
noncomputable def F55.p1 (k : Nat) (R0 : Ar4) (x0 x1 x13 x14 : AV) (s : Store) : Rz :=
  aBin .add x14 (AV.int .i64 1) fun v1 => R0 x0 x1 x13 v1 s
noncomputable abbrev F55.q1 (k : Nat) (R0 : Ar4) : Kz := fun fr s => F55.p1 k R0 (fr 0) (fr 1) (fr 13) (fr 14) s
theorem F55.e1 (k : Nat) (R0 : Ar4) : F55.X k F55.c10 (fun fr s => R0 (fr 0) (fr 1) (fr 13) (fr 14) s) (F55.x0 k) = (F55.q1 k R0) := lE
noncomputable abbrev F55.c11 : Code := cL F55.c9
noncomputable abbrev F55.x1 (k : Nat) (R0 : Ar4) : Nat → Kz := xB 1 (F55.q1 k R0) (F55.x0 k)
noncomputable abbrev F55.c12 : Code := cB F55.c11
noncomputable def F55.p2 (k : Nat) (R0 : Ar4) (x0 x1 x13 x14 : AV) (s : Store) : Rz :=
  aConvInt .u8 x1 fun v1 => aBuild [(0, 1, v1)] [AV.int .u8 0] fun c2 => aAppend 1 1 x0 (AV.sl s.next 0 1 1 1) (s.push (.cells c2 false)) fun v3 s4 => aShift .shr x1 (AV.int .u64 8) fun v5 => F55.p1 k R0 v3 v5 x13 x14 s4
noncomputable abbrev F55.q2 (k : Nat) (R0 : Ar4) : Kz := fun fr s => F55.p2 k R0 (fr 0) (fr 1) (fr 13) (fr 14) s
theorem F55.e2 (k : Nat) (R0 : Ar4) : F55.X k F55.c12 (F55.q1 k R0) (F55.x1 k R0) = (F55.q2 k R0) := lE
theorem F55.e3 (k : Nat) (R0 : Ar4) : F55.X k F55.c11 (F55.q1 k R0) (F55.x0 k) = (F55.q2 k R0) := blockE (i := 1) (F55.e2 k R0)
theorem F55.e4 (k : Nat) (R0 : Ar4) : F55.X k F55.c9 (fun fr s => R0 (fr 0) (fr 1) (fr 13) (fr 14) s) (F55.x0 k) = (F55.q2 k R0) := seqE (F55.e1 k R0) (F55.e3 k R0)
noncomputable abbrev F55.c13 : Code := cL F55.c8
noncomputable def F55.p3 (k : Nat) (R0 : Ar4) (x0 x1 x13 x14 x15 : AV) (s : Store) : Rz :=
  aIf x15 (F55.p2 k R0 x0 x1 x13 x14 s) (F55.p0 k x0 s)
noncomputable abbrev F55.q3 (k : Nat) (R0 : Ar4) : Kz := fun fr s => F55.p3 k R0 (fr 0) (fr 1) (fr 13) (fr 14) (fr 15) s
theorem F55.e5 (k : Nat) (R0 : Ar4) : F55.X k F55.c13 (F55.q2 k R0) (F55.x0 k) = (F55.q3 k R0) := lE
theorem F55.e6 (k : Nat) (R0 : Ar4) : F55.X k F55.c8 (fun fr s => R0 (fr 0) (fr 1) (fr 13) (fr 14) s) (F55.x0 k) = (F55.q3 k R0) := seqE (F55.e4 k R0) (F55.e5 k R0)
noncomputable abbrev F55.c14 : Code := cL F55.c7
noncomputable def F55.p4 (k : Nat) (R0 : Ar4) (x0 x1 x13 x14 : AV) (s : Store) : Rz :=
  aBin .lss x14 x13 fun v1 => F55.p3 k R0 x0 x1 x13 x14 v1 s
noncomputable abbrev F55.q4 (k : Nat) (R0 : Ar4) : Kz := fun fr s => F55.p4 k R0 (fr 0) (fr 1) (fr 13) (fr 14) s
theorem F55.e7 (k : Nat) (R0 : Ar4) : F55.X k F55.c14 (F55.q3 k R0) (F55.x0 k) = (F55.q4 k R0) := lE
theorem F55.e8 (k : Nat) (R0 : Ar4) : F55.X k F55.c7 (fun fr s => R0 (fr 0) (fr 1) (fr 13) (fr 14) s) (F55.x0 k) = (F55.q4 k R0) := seqE (F55.e6 k R0) (F55.e7 k R0)
noncomputable def F55.l0 (k : Nat) : Nat → Ar4 := iterF (fun _ _ _ _ _ => none) (fun R0 x0 x1 x13 x14 s => F55.p4 k R0 x0 x1 x13 x14 s)
theorem F55.e9 (k : Nat) : F55.X k F55.c6 (F55.q0 k) (F55.x0 k) = (fun fr s => F55.l0 k k (fr 0) (fr 1) (fr 13) (fr 14) s) := loopE (fun R0 : Ar4 => (fun fr s => R0 (fr 0) (fr 1) (fr 13) (fr 14) s)) (z := (fun _ _ _ _ _ => none)) (B := (fun R0 x0 x1 x13 x14 s => F55.p4 k R0 x0 x1 x13 x14 s)) rfl (fun R0 => F55.e8 k R0)
theorem F55.e10 (k : Nat) : F55.X k F55.c5 (F55.q0 k) xN = (fun fr s => F55.l0 k k (fr 0) (fr 1) (fr 13) (fr 14) s) := blockE (i := 0) (F55.e9 k)
noncomputable abbrev F55.c15 : Code := cL F55.c4
noncomputable def F55.p5 (k : Nat) (x0 x1 x5 : AV) (s : Store) : Rz :=
  F55.l0 k k x0 x1 x5 (AV.int .i64 0) s
noncomputable abbrev F55.q5 (k : Nat) : Kz := fun fr s => F55.p5 k (fr 0) (fr 1) (fr 5) s
theorem F55.e11 (k : Nat) : F55.X k F55.c15 (fun fr s => F55.l0 k k (fr 0) (fr 1) (fr 13) (fr 14) s) xN = (F55.q5 k) := lE
theorem F55.e12 (k : Nat) : F55.X k F55.c4 (F55.q0 k) xN = (F55.q5 k) := seqE (F55.e10 k) (F55.e11 k)
theorem F55.e13 (k : Nat) : F55.X k F55.c2 (retK Try.prog F55.rs) xN = (F55.q5 k) := seqE (F55.e0 k) (F55.e12 k)
noncomputable abbrev F55.c16 : Code := cL F55.c1
noncomputable def F55.p6 (k : Nat) (x0 x1 x5 : AV) (s : Store) : Rz :=
  aConvInt .u8 x5 fun v1 => aBuild [(0, 1, v1)] [AV.int .u8 0] fun c2 => aAppend 1 1 x0 (AV.sl s.next 0 1 1 1) (s.push (.cells c2 false)) fun v3 s4 => F55.p5 k v3 x1 x5 s4
noncomputable abbrev F55.q6 (k : Nat) : Kz := fun fr s => F55.p6 k (fr 0) (fr 1) (fr 5) s
theorem F55.e14 (k : Nat) : F55.X k F55.c16 (F55.q5 k) xN = (F55.q6 k) := lE
theorem F55.e15 (k : Nat) : F55.X k F55.c1 (retK Try.prog F55.rs) xN = (F55.q6 k) := seqE (F55.e13 k) (F55.e14 k)
noncomputable abbrev F55.c17 : Code := cL F55.c0
noncomputable def F55.p7 (k : Nat) (x0 x1 : AV) (s : Store) : Rz :=
  (rn k 64 [x1] s).bind fun q1 => F55.p6 k x0 x1 q1.1 q1.2
noncomputable abbrev F55.q7 (k : Nat) : Kz := fun fr s => F55.p7 k (fr 0) (fr 1) s
theorem F55.e16 (k : Nat) : F55.X k F55.c17 (F55.q6 k) xN = (F55.q7 k) := lE
theorem F55.e17 (k : Nat) : F55.X k F55.c0 (retK Try.prog F55.rs) xN = (F55.q7 k) := seqE (F55.e15 k) (F55.e16 k)
noncomputable abbrev F55.c18 : Code := cL F55.code
noncomputable def F55.p8 (k : Nat) (x0 x1 : AV) (s : Store) : Rz :=
  F55.p7 k x0 x1 s
noncomputable abbrev F55.q8 (k : Nat) : Kz := fun fr s => F55.p8 k (fr 0) (fr 1) s
theorem F55.e18 (k : Nat) : F55.X k F55.c18 (F55.q7 k) xN = (F55.q8 k) := lE
theorem F55.e19 (k : Nat) : F55.X k F55.code (retK Try.prog F55.rs) xN = (F55.q8 k) := seqE (F55.e17 k) (F55.e18 k)
noncomputable def F55.f (k : Nat) (a0 a1 : AV) (s : Store) : Rz := F55.p8 k a0 a1 s
theorem F55.eq (k : Nat) (a0 a1 : AV) (s : Store) : rn (k + 1) 55 [a0, a1] s = F55.f k a0 a1 s :=
  (rn_eq Try.func55 (by kernel_rfl) (by kernel_rfl) (by kernel_rfl) k s (by kernel_rfl)).trans (congrFun (congrFun (F55.e19 k) (frOf [a0, a1])) s)

/-! unison/num.Rows: function 104 -/
noncomputable def F104.code : Code := bodyOf Try.f104
noncomputable def F104.rs : List ResultVar := Try.f104.results.toList
noncomputable abbrev F104.X (k : Nat) (c : Code) (n : Kz) (x : Nat → Kz) : Kz := exec Try.prog (rn k) k 25 c ⟨n, x, retK Try.prog F104.rs⟩
noncomputable abbrev F104.c0 : Code := cR F104.code
noncomputable abbrev F104.c1 : Code := cR F104.c0
noncomputable abbrev F104.c2 : Code := cR F104.c1
noncomputable def F104.p0 (k : Nat) (x5 : AV) (s : Store) : Rz :=
  some (x5, s)
noncomputable abbrev F104.q0 (k : Nat) : Kz := fun fr s => F104.p0 k (fr 5) s
theorem F104.e0 (k : Nat) : F104.X k F104.c2 (retK Try.prog F104.rs) xN = (F104.q0 k) := lE
noncomputable abbrev F104.c3 : Code := cL F104.c1
noncomputable abbrev F104.c4 : Code := cR F104.c3
noncomputable abbrev F104.x0 (k : Nat) : Nat → Kz := xB 0 (F104.q0 k) xN
noncomputable abbrev F104.c5 : Code := cB F104.c4
noncomputable abbrev F104.c6 : Code := cB F104.c5
noncomputable abbrev F104.c7 : Code := cR F104.c6
noncomputable abbrev F104.c8 : Code := cR F104.c7
noncomputable abbrev F104.c9 : Code := cR F104.c8
noncomputable def F104.p1 (k : Nat) (R0 : Ar4) (x5 x10 x11 x12 : AV) (s : Store) : Rz :=
  aBin .add x12 (AV.int .i64 1) fun v1 => R0 x5 x10 x11 v1 s
noncomputable abbrev F104.q1 (k : Nat) (R0 : Ar4) : Kz := fun fr s => F104.p1 k R0 (fr 5) (fr 10) (fr 11) (fr 12) s
theorem F104.e1 (k : Nat) (R0 : Ar4) : F104.X k F104.c9 (fun fr s => R0 (fr 5) (fr 10) (fr 11) (fr 12) s) (F104.x0 k) = (F104.q1 k R0) := lE
noncomputable abbrev F104.c10 : Code := cL F104.c8
noncomputable abbrev F104.x1 (k : Nat) (R0 : Ar4) : Nat → Kz := xB 1 (F104.q1 k R0) (F104.x0 k)
noncomputable abbrev F104.c11 : Code := cB F104.c10
noncomputable def F104.p2 (k : Nat) (R0 : Ar4) (x5 x10 x11 x12 : AV) (s : Store) : Rz :=
  aIndexSl 1 x10 x12 fun v1 => aLoad1 v1 s fun v2 => aLen v2 fun v3 => aConvInt .u64 v3 fun v4 => (rn k 55 [x5, v4] s).bind fun q5 => aAppend 1 1 q5.1 v2 q5.2 fun v6 s7 => F104.p1 k R0 v6 x10 x11 x12 s7
noncomputable abbrev F104.q2 (k : Nat) (R0 : Ar4) : Kz := fun fr s => F104.p2 k R0 (fr 5) (fr 10) (fr 11) (fr 12) s
theorem F104.e2 (k : Nat) (R0 : Ar4) : F104.X k F104.c11 (F104.q1 k R0) (F104.x1 k R0) = (F104.q2 k R0) := lE
theorem F104.e3 (k : Nat) (R0 : Ar4) : F104.X k F104.c10 (F104.q1 k R0) (F104.x0 k) = (F104.q2 k R0) := blockE (i := 1) (F104.e2 k R0)
theorem F104.e4 (k : Nat) (R0 : Ar4) : F104.X k F104.c8 (fun fr s => R0 (fr 5) (fr 10) (fr 11) (fr 12) s) (F104.x0 k) = (F104.q2 k R0) := seqE (F104.e1 k R0) (F104.e3 k R0)
noncomputable abbrev F104.c12 : Code := cL F104.c7
noncomputable def F104.p3 (k : Nat) (R0 : Ar4) (x5 x10 x11 x12 x13 : AV) (s : Store) : Rz :=
  aIf x13 (F104.p2 k R0 x5 x10 x11 x12 s) (F104.p0 k x5 s)
noncomputable abbrev F104.q3 (k : Nat) (R0 : Ar4) : Kz := fun fr s => F104.p3 k R0 (fr 5) (fr 10) (fr 11) (fr 12) (fr 13) s
theorem F104.e5 (k : Nat) (R0 : Ar4) : F104.X k F104.c12 (F104.q2 k R0) (F104.x0 k) = (F104.q3 k R0) := lE
theorem F104.e6 (k : Nat) (R0 : Ar4) : F104.X k F104.c7 (fun fr s => R0 (fr 5) (fr 10) (fr 11) (fr 12) s) (F104.x0 k) = (F104.q3 k R0) := seqE (F104.e4 k R0) (F104.e5 k R0)
noncomputable abbrev F104.c13 : Code := cL F104.c6
noncomputable def F104.p4 (k : Nat) (R0 : Ar4) (x5 x10 x11 x12 : AV) (s : Store) : Rz :=
  aBin .lss x12 x11 fun v1 => F104.p3 k R0 x5 x10 x11 x12 v1 s
noncomputable abbrev F104.q4 (k : Nat) (R0 : Ar4) : Kz := fun fr s => F104.p4 k R0 (fr 5) (fr 10) (fr 11) (fr 12) s
theorem F104.e7 (k : Nat) (R0 : Ar4) : F104.X k F104.c13 (F104.q3 k R0) (F104.x0 k) = (F104.q4 k R0) := lE
theorem F104.e8 (k : Nat) (R0 : Ar4) : F104.X k F104.c6 (fun fr s => R0 (fr 5) (fr 10) (fr 11) (fr 12) s) (F104.x0 k) = (F104.q4 k R0) := seqE (F104.e6 k R0) (F104.e7 k R0)
noncomputable def F104.l0 (k : Nat) : Nat → Ar4 := iterF (fun _ _ _ _ _ => none) (fun R0 x5 x10 x11 x12 s => F104.p4 k R0 x5 x10 x11 x12 s)
theorem F104.e9 (k : Nat) : F104.X k F104.c5 (F104.q0 k) (F104.x0 k) = (fun fr s => F104.l0 k k (fr 5) (fr 10) (fr 11) (fr 12) s) := loopE (fun R0 : Ar4 => (fun fr s => R0 (fr 5) (fr 10) (fr 11) (fr 12) s)) (z := (fun _ _ _ _ _ => none)) (B := (fun R0 x5 x10 x11 x12 s => F104.p4 k R0 x5 x10 x11 x12 s)) rfl (fun R0 => F104.e8 k R0)
theorem F104.e10 (k : Nat) : F104.X k F104.c4 (F104.q0 k) xN = (fun fr s => F104.l0 k k (fr 5) (fr 10) (fr 11) (fr 12) s) := blockE (i := 0) (F104.e9 k)
noncomputable abbrev F104.c14 : Code := cL F104.c3
noncomputable def F104.p5 (k : Nat) (x1 x5 : AV) (s : Store) : Rz :=
  aLen x1 fun v1 => F104.l0 k k x5 x1 v1 (AV.int .i64 0) s
noncomputable abbrev F104.q5 (k : Nat) : Kz := fun fr s => F104.p5 k (fr 1) (fr 5) s
theorem F104.e11 (k : Nat) : F104.X k F104.c14 (fun fr s => F104.l0 k k (fr 5) (fr 10) (fr 11) (fr 12) s) xN = (F104.q5 k) := lE
theorem F104.e12 (k : Nat) : F104.X k F104.c3 (F104.q0 k) xN = (F104.q5 k) := seqE (F104.e10 k) (F104.e11 k)
theorem F104.e13 (k : Nat) : F104.X k F104.c1 (retK Try.prog F104.rs) xN = (F104.q5 k) := seqE (F104.e0 k) (F104.e12 k)
noncomputable abbrev F104.c15 : Code := cL F104.c0
noncomputable def F104.p6 (k : Nat) (x0 x1 : AV) (s : Store) : Rz :=
  (rn k 45 [x0] s).bind fun q1 => F104.p5 k x1 q1.1 q1.2
noncomputable abbrev F104.q6 (k : Nat) : Kz := fun fr s => F104.p6 k (fr 0) (fr 1) s
theorem F104.e14 (k : Nat) : F104.X k F104.c15 (F104.q5 k) xN = (F104.q6 k) := lE
theorem F104.e15 (k : Nat) : F104.X k F104.c0 (retK Try.prog F104.rs) xN = (F104.q6 k) := seqE (F104.e13 k) (F104.e14 k)
noncomputable abbrev F104.c16 : Code := cL F104.code
noncomputable def F104.p7 (k : Nat) (x0 x1 : AV) (s : Store) : Rz :=
  F104.p6 k x0 x1 s
noncomputable abbrev F104.q7 (k : Nat) : Kz := fun fr s => F104.p7 k (fr 0) (fr 1) s
theorem F104.e16 (k : Nat) : F104.X k F104.c16 (F104.q6 k) xN = (F104.q7 k) := lE
theorem F104.e17 (k : Nat) : F104.X k F104.code (retK Try.prog F104.rs) xN = (F104.q7 k) := seqE (F104.e15 k) (F104.e16 k)
noncomputable def F104.f (k : Nat) (a0 a1 : AV) (s : Store) : Rz := F104.p7 k a0 a1 s
theorem F104.eq (k : Nat) (a0 a1 : AV) (s : Store) : rn (k + 1) 104 [a0, a1] s = F104.f k a0 a1 s :=
  (rn_eq Try.func104 (by kernel_rfl) (by kernel_rfl) (by kernel_rfl) k s (by kernel_rfl)).trans (congrFun (congrFun (F104.e17 k) (frOf [a0, a1])) s)

/-! unison/num.Put: function 31 -/
noncomputable def F31.code : Code := bodyOf Try.f31
noncomputable def F31.rs : List ResultVar := Try.f31.results.toList
noncomputable abbrev F31.X (k : Nat) (c : Code) (n : Kz) (x : Nat → Kz) : Kz := exec Try.prog (rn k) k 21 c ⟨n, x, retK Try.prog F31.rs⟩
noncomputable abbrev F31.c0 : Code := cR F31.code
noncomputable abbrev F31.c1 : Code := cR F31.c0
noncomputable abbrev F31.c2 : Code := cR F31.c1
noncomputable def F31.p0 (k : Nat) (x5 : AV) (s : Store) : Rz :=
  some (x5, s)
noncomputable abbrev F31.q0 (k : Nat) : Kz := fun fr s => F31.p0 k (fr 5) s
theorem F31.e0 (k : Nat) : F31.X k F31.c2 (retK Try.prog F31.rs) xN = (F31.q0 k) := lE
noncomputable abbrev F31.c3 : Code := cL F31.c1
noncomputable abbrev F31.c4 : Code := cR F31.c3
noncomputable abbrev F31.x0 (k : Nat) : Nat → Kz := xB 0 (F31.q0 k) xN
noncomputable abbrev F31.c5 : Code := cB F31.c4
noncomputable abbrev F31.c6 : Code := cB F31.c5
noncomputable abbrev F31.c7 : Code := cR F31.c6
noncomputable abbrev F31.c8 : Code := cR F31.c7
noncomputable abbrev F31.c9 : Code := cR F31.c8
noncomputable def F31.p1 (k : Nat) (R0 : Ar4) (x5 x10 x11 x12 : AV) (s : Store) : Rz :=
  aBin .add x12 (AV.int .i64 1) fun v1 => R0 x5 x10 x11 v1 s
noncomputable abbrev F31.q1 (k : Nat) (R0 : Ar4) : Kz := fun fr s => F31.p1 k R0 (fr 5) (fr 10) (fr 11) (fr 12) s
theorem F31.e1 (k : Nat) (R0 : Ar4) : F31.X k F31.c9 (fun fr s => R0 (fr 5) (fr 10) (fr 11) (fr 12) s) (F31.x0 k) = (F31.q1 k R0) := lE
noncomputable abbrev F31.c10 : Code := cL F31.c8
noncomputable abbrev F31.x1 (k : Nat) (R0 : Ar4) : Nat → Kz := xB 1 (F31.q1 k R0) (F31.x0 k)
noncomputable abbrev F31.c11 : Code := cB F31.c10
noncomputable def F31.p2 (k : Nat) (R0 : Ar4) (x5 x10 x11 x12 : AV) (s : Store) : Rz :=
  aIndexSl 1 x10 x12 fun v1 => aLoad1 v1 s fun v2 => (rn k 55 [x5, v2] s).bind fun q3 => F31.p1 k R0 q3.1 x10 x11 x12 q3.2
noncomputable abbrev F31.q2 (k : Nat) (R0 : Ar4) : Kz := fun fr s => F31.p2 k R0 (fr 5) (fr 10) (fr 11) (fr 12) s
theorem F31.e2 (k : Nat) (R0 : Ar4) : F31.X k F31.c11 (F31.q1 k R0) (F31.x1 k R0) = (F31.q2 k R0) := lE
theorem F31.e3 (k : Nat) (R0 : Ar4) : F31.X k F31.c10 (F31.q1 k R0) (F31.x0 k) = (F31.q2 k R0) := blockE (i := 1) (F31.e2 k R0)
theorem F31.e4 (k : Nat) (R0 : Ar4) : F31.X k F31.c8 (fun fr s => R0 (fr 5) (fr 10) (fr 11) (fr 12) s) (F31.x0 k) = (F31.q2 k R0) := seqE (F31.e1 k R0) (F31.e3 k R0)
noncomputable abbrev F31.c12 : Code := cL F31.c7
noncomputable def F31.p3 (k : Nat) (R0 : Ar4) (x5 x10 x11 x12 x13 : AV) (s : Store) : Rz :=
  aIf x13 (F31.p2 k R0 x5 x10 x11 x12 s) (F31.p0 k x5 s)
noncomputable abbrev F31.q3 (k : Nat) (R0 : Ar4) : Kz := fun fr s => F31.p3 k R0 (fr 5) (fr 10) (fr 11) (fr 12) (fr 13) s
theorem F31.e5 (k : Nat) (R0 : Ar4) : F31.X k F31.c12 (F31.q2 k R0) (F31.x0 k) = (F31.q3 k R0) := lE
theorem F31.e6 (k : Nat) (R0 : Ar4) : F31.X k F31.c7 (fun fr s => R0 (fr 5) (fr 10) (fr 11) (fr 12) s) (F31.x0 k) = (F31.q3 k R0) := seqE (F31.e4 k R0) (F31.e5 k R0)
noncomputable abbrev F31.c13 : Code := cL F31.c6
noncomputable def F31.p4 (k : Nat) (R0 : Ar4) (x5 x10 x11 x12 : AV) (s : Store) : Rz :=
  aBin .lss x12 x11 fun v1 => F31.p3 k R0 x5 x10 x11 x12 v1 s
noncomputable abbrev F31.q4 (k : Nat) (R0 : Ar4) : Kz := fun fr s => F31.p4 k R0 (fr 5) (fr 10) (fr 11) (fr 12) s
theorem F31.e7 (k : Nat) (R0 : Ar4) : F31.X k F31.c13 (F31.q3 k R0) (F31.x0 k) = (F31.q4 k R0) := lE
theorem F31.e8 (k : Nat) (R0 : Ar4) : F31.X k F31.c6 (fun fr s => R0 (fr 5) (fr 10) (fr 11) (fr 12) s) (F31.x0 k) = (F31.q4 k R0) := seqE (F31.e6 k R0) (F31.e7 k R0)
noncomputable def F31.l0 (k : Nat) : Nat → Ar4 := iterF (fun _ _ _ _ _ => none) (fun R0 x5 x10 x11 x12 s => F31.p4 k R0 x5 x10 x11 x12 s)
theorem F31.e9 (k : Nat) : F31.X k F31.c5 (F31.q0 k) (F31.x0 k) = (fun fr s => F31.l0 k k (fr 5) (fr 10) (fr 11) (fr 12) s) := loopE (fun R0 : Ar4 => (fun fr s => R0 (fr 5) (fr 10) (fr 11) (fr 12) s)) (z := (fun _ _ _ _ _ => none)) (B := (fun R0 x5 x10 x11 x12 s => F31.p4 k R0 x5 x10 x11 x12 s)) rfl (fun R0 => F31.e8 k R0)
theorem F31.e10 (k : Nat) : F31.X k F31.c4 (F31.q0 k) xN = (fun fr s => F31.l0 k k (fr 5) (fr 10) (fr 11) (fr 12) s) := blockE (i := 0) (F31.e9 k)
noncomputable abbrev F31.c14 : Code := cL F31.c3
noncomputable def F31.p5 (k : Nat) (x1 x5 : AV) (s : Store) : Rz :=
  aLen x1 fun v1 => F31.l0 k k x5 x1 v1 (AV.int .i64 0) s
noncomputable abbrev F31.q5 (k : Nat) : Kz := fun fr s => F31.p5 k (fr 1) (fr 5) s
theorem F31.e11 (k : Nat) : F31.X k F31.c14 (fun fr s => F31.l0 k k (fr 5) (fr 10) (fr 11) (fr 12) s) xN = (F31.q5 k) := lE
theorem F31.e12 (k : Nat) : F31.X k F31.c3 (F31.q0 k) xN = (F31.q5 k) := seqE (F31.e10 k) (F31.e11 k)
theorem F31.e13 (k : Nat) : F31.X k F31.c1 (retK Try.prog F31.rs) xN = (F31.q5 k) := seqE (F31.e0 k) (F31.e12 k)
noncomputable abbrev F31.c15 : Code := cL F31.c0
noncomputable def F31.p6 (k : Nat) (x0 x1 : AV) (s : Store) : Rz :=
  (rn k 45 [x0] s).bind fun q1 => F31.p5 k x1 q1.1 q1.2
noncomputable abbrev F31.q6 (k : Nat) : Kz := fun fr s => F31.p6 k (fr 0) (fr 1) s
theorem F31.e14 (k : Nat) : F31.X k F31.c15 (F31.q5 k) xN = (F31.q6 k) := lE
theorem F31.e15 (k : Nat) : F31.X k F31.c0 (retK Try.prog F31.rs) xN = (F31.q6 k) := seqE (F31.e13 k) (F31.e14 k)
noncomputable abbrev F31.c16 : Code := cL F31.code
noncomputable def F31.p7 (k : Nat) (x0 x1 : AV) (s : Store) : Rz :=
  F31.p6 k x0 x1 s
noncomputable abbrev F31.q7 (k : Nat) : Kz := fun fr s => F31.p7 k (fr 0) (fr 1) s
theorem F31.e16 (k : Nat) : F31.X k F31.c16 (F31.q6 k) xN = (F31.q7 k) := lE
theorem F31.e17 (k : Nat) : F31.X k F31.code (retK Try.prog F31.rs) xN = (F31.q7 k) := seqE (F31.e15 k) (F31.e16 k)
noncomputable def F31.f (k : Nat) (a0 a1 : AV) (s : Store) : Rz := F31.p7 k a0 a1 s
theorem F31.eq (k : Nat) (a0 a1 : AV) (s : Store) : rn (k + 1) 31 [a0, a1] s = F31.f k a0 a1 s :=
  (rn_eq Try.func31 (by kernel_rfl) (by kernel_rfl) (by kernel_rfl) k s (by kernel_rfl)).trans (congrFun (congrFun (F31.e17 k) (frOf [a0, a1])) s)

/-! unison/num.New: function 18 -/
noncomputable def F18.code : Code := bodyOf Try.f18
noncomputable def F18.rs : List ResultVar := Try.f18.results.toList
noncomputable abbrev F18.X (k : Nat) (c : Code) (n : Kz) (x : Nat → Kz) : Kz := exec Try.prog (rn k) k 7 c ⟨n, x, retK Try.prog F18.rs⟩
noncomputable def F18.p0 (k : Nat) (x0 : AV) (s : Store) : Rz :=
  (rn k 45 [x0] s).bind fun q1 => aBuild [(0, 1, q1.1)] [AV.nilsl, AV.int .i64 0] fun c2 => aCells (AV.agg c2) fun c3 => aNew c3 q1.2 fun v4 s5 => some (v4, s5)
noncomputable abbrev F18.q0 (k : Nat) : Kz := fun fr s => F18.p0 k (fr 0) s
theorem F18.e0 (k : Nat) : F18.X k F18.code (retK Try.prog F18.rs) xN = (F18.q0 k) := lE
noncomputable def F18.f (k : Nat) (a0 : AV) (s : Store) : Rz := F18.p0 k a0 s
theorem F18.eq (k : Nat) (a0 : AV) (s : Store) : rn (k + 1) 18 [a0] s = F18.f k a0 s :=
  (rn_eq Try.func18 (by kernel_rfl) (by kernel_rfl) (by kernel_rfl) k s (by kernel_rfl)).trans (congrFun (congrFun (F18.e0 k) (frOf [a0])) s)

/-! unison/ident.May: function 56 -/
noncomputable def F56.code : Code := bodyOf Try.f56
noncomputable def F56.rs : List ResultVar := Try.f56.results.toList
noncomputable abbrev F56.X (k : Nat) (c : Code) (n : Kz) (x : Nat → Kz) : Kz := exec Try.prog (rn k) k 21 c ⟨n, x, retK Try.prog F56.rs⟩
noncomputable def F56.p0 (k : Nat) (x0 x1 : AV) (s : Store) : Rz :=
  aCells x0 fun c1 => aNew c1 s fun v2 s3 => aFieldAddr 0 v2 fun v4 => aLoad1 v4 s3 fun v5 => aConvInt .i64 v5 fun v6 => aMinL x1 [(AV.int .i64 64)] fun v7 => aBin .lss v6 v7 fun v8 => (aGuard v8 true (aFieldAddr 1 v2 fun v10 => some (v10, s3)) (some (AV.tuple [], s3))).bind fun g9 => (aGuard v8 true (aLoad1 g9.1 g9.2 fun v12 => some (v12, g9.2)) (some (AV.tuple [], g9.2))).bind fun g11 => (aGuard v8 true (aBin .geq g11.1 (AV.int .u64 1) fun v14 => some (v14, g11.2)) (some (AV.tuple [], g11.2))).bind fun g13 => aPick v8 g13.1 (AV.bool false) fun v15 => (aGuard v15 true (aFieldAddr 1 v2 fun v17 => some (v17, g13.2)) (some (AV.tuple [], g13.2))).bind fun g16 => (aGuard v15 true (aLoad1 g16.1 g16.2 fun v19 => some (v19, g16.2)) (some (AV.tuple [], g16.2))).bind fun g18 => (aGuard v15 true (aBin .leq g18.1 (AV.int .u64 4611686018427387904) fun v21 => some (v21, g18.2)) (some (AV.tuple [], g18.2))).bind fun g20 => aPick v15 g20.1 (AV.bool false) fun v22 => some (v22, g20.2)
noncomputable abbrev F56.q0 (k : Nat) : Kz := fun fr s => F56.p0 k (fr 0) (fr 1) s
theorem F56.e0 (k : Nat) : F56.X k F56.code (retK Try.prog F56.rs) xN = (F56.q0 k) := lE
noncomputable def F56.f (k : Nat) (a0 a1 : AV) (s : Store) : Rz := F56.p0 k a0 a1 s
theorem F56.eq (k : Nat) (a0 a1 : AV) (s : Store) : rn (k + 1) 56 [a0, a1] s = F56.f k a0 a1 s :=
  (rn_eq Try.func56 (by kernel_rfl) (by kernel_rfl) (by kernel_rfl) k s (by kernel_rfl)).trans (congrFun (congrFun (F56.e0 k) (frOf [a0, a1])) s)

/-! unison/ident.Run: function 65 -/
noncomputable def F65.code : Code := bodyOf Try.f65
noncomputable def F65.rs : List ResultVar := Try.f65.results.toList
noncomputable abbrev F65.X (k : Nat) (c : Code) (n : Kz) (x : Nat → Kz) : Kz := exec Try.prog (rn k) k 30 c ⟨n, x, retK Try.prog F65.rs⟩
noncomputable def F65.p0 (k : Nat) (x0 : AV) (s : Store) : Rz :=
  aCells x0 fun c1 => aNew c1 s fun v2 s3 => aFieldAddr 0 v2 fun v4 => aLoad1 v4 s3 fun v5 => aBin .lss v5 (AV.int .u8 64) fun v6 => (aGuard v6 true (aFieldAddr 1 v2 fun v8 => some (v8, s3)) (some (AV.tuple [], s3))).bind fun g7 => (aGuard v6 true (aLoad1 g7.1 g7.2 fun v10 => some (v10, g7.2)) (some (AV.tuple [], g7.2))).bind fun g9 => (aGuard v6 true (aBin .geq g9.1 (AV.int .u64 1) fun v12 => some (v12, g9.2)) (some (AV.tuple [], g9.2))).bind fun g11 => aPick v6 g11.1 (AV.bool false) fun v13 => (aGuard v13 true (aFieldAddr 2 v2 fun v15 => some (v15, g11.2)) (some (AV.tuple [], g11.2))).bind fun g14 => (aGuard v13 true (aLoad1 g14.1 g14.2 fun v17 => some (v17, g14.2)) (some (AV.tuple [], g14.2))).bind fun g16 => (aGuard v13 true (aBin .geq g16.1 (AV.int .u64 1) fun v19 => some (v19, g16.2)) (some (AV.tuple [], g16.2))).bind fun g18 => aPick v13 g18.1 (AV.bool false) fun v20 => (aGuard v20 true (aFieldAddr 1 v2 fun v22 => some (v22, g18.2)) (some (AV.tuple [], g18.2))).bind fun g21 => (aGuard v20 true (aLoad1 g21.1 g21.2 fun v24 => some (v24, g21.2)) (some (AV.tuple [], g21.2))).bind fun g23 => (aGuard v20 true (aBin .leq g23.1 (AV.int .u64 4611686018427387904) fun v26 => some (v26, g23.2)) (some (AV.tuple [], g23.2))).bind fun g25 => aPick v20 g25.1 (AV.bool false) fun v27 => (aGuard v27 true (aFieldAddr 2 v2 fun v29 => some (v29, g25.2)) (some (AV.tuple [], g25.2))).bind fun g28 => (aGuard v27 true (aLoad1 g28.1 g28.2 fun v31 => some (v31, g28.2)) (some (AV.tuple [], g28.2))).bind fun g30 => (aGuard v27 true (aFieldAddr 1 v2 fun v33 => some (v33, g30.2)) (some (AV.tuple [], g30.2))).bind fun g32 => (aGuard v27 true (aLoad1 g32.1 g32.2 fun v35 => some (v35, g32.2)) (some (AV.tuple [], g32.2))).bind fun g34 => (aGuard v27 true (aBin .sub (AV.int .u64 4611686018427387904) g34.1 fun v37 => some (v37, g34.2)) (some (AV.tuple [], g34.2))).bind fun g36 => (aGuard v27 true (aBin .add g36.1 (AV.int .u64 1) fun v39 => some (v39, g36.2)) (some (AV.tuple [], g36.2))).bind fun g38 => (aGuard v27 true (aBin .leq g30.1 g38.1 fun v41 => some (v41, g38.2)) (some (AV.tuple [], g38.2))).bind fun g40 => aPick v27 g40.1 (AV.bool false) fun v42 => some (v42, g40.2)
noncomputable abbrev F65.q0 (k : Nat) : Kz := fun fr s => F65.p0 k (fr 0) s
theorem F65.e0 (k : Nat) : F65.X k F65.code (retK Try.prog F65.rs) xN = (F65.q0 k) := lE
noncomputable def F65.f (k : Nat) (a0 : AV) (s : Store) : Rz := F65.p0 k a0 s
theorem F65.eq (k : Nat) (a0 : AV) (s : Store) : rn (k + 1) 65 [a0] s = F65.f k a0 s :=
  (rn_eq Try.func65 (by kernel_rfl) (by kernel_rfl) (by kernel_rfl) k s (by kernel_rfl)).trans (congrFun (congrFun (F65.e0 k) (frOf [a0])) s)

/-! cmp.Or[int]: function 72 -/
noncomputable def F72.code : Code := bodyOf Try.f72
noncomputable def F72.rs : List ResultVar := Try.f72.results.toList
noncomputable abbrev F72.X (k : Nat) (c : Code) (n : Kz) (x : Nat → Kz) : Kz := exec Try.prog (rn k) k 18 c ⟨n, x, retK Try.prog F72.rs⟩
noncomputable abbrev F72.c0 : Code := cR F72.code
noncomputable abbrev F72.c1 : Code := cR F72.c0
noncomputable abbrev F72.c2 : Code := cR F72.c1
noncomputable def F72.p0 (k : Nat) (x3 : AV) (s : Store) : Rz :=
  some (x3, s)
noncomputable abbrev F72.q0 (k : Nat) : Kz := fun fr s => F72.p0 k (fr 3) s
theorem F72.e0 (k : Nat) : F72.X k F72.c2 (retK Try.prog F72.rs) xN = (F72.q0 k) := lE
noncomputable abbrev F72.c3 : Code := cL F72.c1
noncomputable abbrev F72.c4 : Code := cR F72.c3
noncomputable abbrev F72.x0 (k : Nat) : Nat → Kz := xB 0 (F72.q0 k) xN
noncomputable abbrev F72.c5 : Code := cB F72.c4
noncomputable abbrev F72.c6 : Code := cB F72.c5
noncomputable abbrev F72.c7 : Code := cR F72.c6
noncomputable abbrev F72.c8 : Code := cR F72.c7
noncomputable abbrev F72.c9 : Code := cR F72.c8
noncomputable def F72.p1 (k : Nat) (R0 : Ar4) (x3 x6 x7 x8 : AV) (s : Store) : Rz :=
  aBin .add x8 (AV.int .i64 1) fun v1 => R0 x3 x6 x7 v1 s
noncomputable abbrev F72.q1 (k : Nat) (R0 : Ar4) : Kz := fun fr s => F72.p1 k R0 (fr 3) (fr 6) (fr 7) (fr 8) s
theorem F72.e1 (k : Nat) (R0 : Ar4) : F72.X k F72.c9 (fun fr s => R0 (fr 3) (fr 6) (fr 7) (fr 8) s) (F72.x0 k) = (F72.q1 k R0) := lE
noncomputable abbrev F72.c10 : Code := cL F72.c8
noncomputable abbrev F72.x1 (k : Nat) (R0 : Ar4) : Nat → Kz := xB 1 (F72.q1 k R0) (F72.x0 k)
noncomputable abbrev F72.c11 : Code := cB F72.c10
noncomputable def F72.p2 (k : Nat) (R0 : Ar4) (x3 x6 x7 x8 : AV) (s : Store) : Rz :=
  aIndexSl 1 x6 x8 fun v1 => aLoad1 v1 s fun v2 => aBin .neq v2 x3 fun v3 => aIf v3 (some (v2, s)) (F72.p1 k R0 x3 x6 x7 x8 s)
noncomputable abbrev F72.q2 (k : Nat) (R0 : Ar4) : Kz := fun fr s => F72.p2 k R0 (fr 3) (fr 6) (fr 7) (fr 8) s
theorem F72.e2 (k : Nat) (R0 : Ar4) : F72.X k F72.c11 (F72.q1 k R0) (F72.x1 k R0) = (F72.q2 k R0) := lE
theorem F72.e3 (k : Nat) (R0 : Ar4) : F72.X k F72.c10 (F72.q1 k R0) (F72.x0 k) = (F72.q2 k R0) := blockE (i := 1) (F72.e2 k R0)
theorem F72.e4 (k : Nat) (R0 : Ar4) : F72.X k F72.c8 (fun fr s => R0 (fr 3) (fr 6) (fr 7) (fr 8) s) (F72.x0 k) = (F72.q2 k R0) := seqE (F72.e1 k R0) (F72.e3 k R0)
noncomputable abbrev F72.c12 : Code := cL F72.c7
noncomputable def F72.p3 (k : Nat) (R0 : Ar4) (x3 x6 x7 x8 x9 : AV) (s : Store) : Rz :=
  aIf x9 (F72.p2 k R0 x3 x6 x7 x8 s) (F72.p0 k x3 s)
noncomputable abbrev F72.q3 (k : Nat) (R0 : Ar4) : Kz := fun fr s => F72.p3 k R0 (fr 3) (fr 6) (fr 7) (fr 8) (fr 9) s
theorem F72.e5 (k : Nat) (R0 : Ar4) : F72.X k F72.c12 (F72.q2 k R0) (F72.x0 k) = (F72.q3 k R0) := lE
theorem F72.e6 (k : Nat) (R0 : Ar4) : F72.X k F72.c7 (fun fr s => R0 (fr 3) (fr 6) (fr 7) (fr 8) s) (F72.x0 k) = (F72.q3 k R0) := seqE (F72.e4 k R0) (F72.e5 k R0)
noncomputable abbrev F72.c13 : Code := cL F72.c6
noncomputable def F72.p4 (k : Nat) (R0 : Ar4) (x3 x6 x7 x8 : AV) (s : Store) : Rz :=
  aBin .lss x8 x7 fun v1 => F72.p3 k R0 x3 x6 x7 x8 v1 s
noncomputable abbrev F72.q4 (k : Nat) (R0 : Ar4) : Kz := fun fr s => F72.p4 k R0 (fr 3) (fr 6) (fr 7) (fr 8) s
theorem F72.e7 (k : Nat) (R0 : Ar4) : F72.X k F72.c13 (F72.q3 k R0) (F72.x0 k) = (F72.q4 k R0) := lE
theorem F72.e8 (k : Nat) (R0 : Ar4) : F72.X k F72.c6 (fun fr s => R0 (fr 3) (fr 6) (fr 7) (fr 8) s) (F72.x0 k) = (F72.q4 k R0) := seqE (F72.e6 k R0) (F72.e7 k R0)
noncomputable def F72.l0 (k : Nat) : Nat → Ar4 := iterF (fun _ _ _ _ _ => none) (fun R0 x3 x6 x7 x8 s => F72.p4 k R0 x3 x6 x7 x8 s)
theorem F72.e9 (k : Nat) : F72.X k F72.c5 (F72.q0 k) (F72.x0 k) = (fun fr s => F72.l0 k k (fr 3) (fr 6) (fr 7) (fr 8) s) := loopE (fun R0 : Ar4 => (fun fr s => R0 (fr 3) (fr 6) (fr 7) (fr 8) s)) (z := (fun _ _ _ _ _ => none)) (B := (fun R0 x3 x6 x7 x8 s => F72.p4 k R0 x3 x6 x7 x8 s)) rfl (fun R0 => F72.e8 k R0)
theorem F72.e10 (k : Nat) : F72.X k F72.c4 (F72.q0 k) xN = (fun fr s => F72.l0 k k (fr 3) (fr 6) (fr 7) (fr 8) s) := blockE (i := 0) (F72.e9 k)
noncomputable abbrev F72.c14 : Code := cL F72.c3
noncomputable def F72.p5 (k : Nat) (x0 x3 : AV) (s : Store) : Rz :=
  aLen x0 fun v1 => F72.l0 k k x3 x0 v1 (AV.int .i64 0) s
noncomputable abbrev F72.q5 (k : Nat) : Kz := fun fr s => F72.p5 k (fr 0) (fr 3) s
theorem F72.e11 (k : Nat) : F72.X k F72.c14 (fun fr s => F72.l0 k k (fr 3) (fr 6) (fr 7) (fr 8) s) xN = (F72.q5 k) := lE
theorem F72.e12 (k : Nat) : F72.X k F72.c3 (F72.q0 k) xN = (F72.q5 k) := seqE (F72.e10 k) (F72.e11 k)
theorem F72.e13 (k : Nat) : F72.X k F72.c1 (retK Try.prog F72.rs) xN = (F72.q5 k) := seqE (F72.e0 k) (F72.e12 k)
noncomputable abbrev F72.c15 : Code := cL F72.c0
noncomputable def F72.p6 (k : Nat) (x0 : AV) (s : Store) : Rz :=
  F72.p5 k x0 (AV.int .i64 0) s
noncomputable abbrev F72.q6 (k : Nat) : Kz := fun fr s => F72.p6 k (fr 0) s
theorem F72.e14 (k : Nat) : F72.X k F72.c15 (F72.q5 k) xN = (F72.q6 k) := lE
theorem F72.e15 (k : Nat) : F72.X k F72.c0 (retK Try.prog F72.rs) xN = (F72.q6 k) := seqE (F72.e13 k) (F72.e14 k)
noncomputable abbrev F72.c16 : Code := cL F72.code
noncomputable def F72.p7 (k : Nat) (x0 : AV) (s : Store) : Rz :=
  F72.p6 k x0 s
noncomputable abbrev F72.q7 (k : Nat) : Kz := fun fr s => F72.p7 k (fr 0) s
theorem F72.e16 (k : Nat) : F72.X k F72.c16 (F72.q6 k) xN = (F72.q7 k) := lE
theorem F72.e17 (k : Nat) : F72.X k F72.code (retK Try.prog F72.rs) xN = (F72.q7 k) := seqE (F72.e15 k) (F72.e16 k)
noncomputable def F72.f (k : Nat) (a0 : AV) (s : Store) : Rz := F72.p7 k a0 s
theorem F72.eq (k : Nat) (a0 : AV) (s : Store) : rn (k + 1) 72 [a0] s = F72.f k a0 s :=
  (rn_eq Try.func72 (by kernel_rfl) (by kernel_rfl) (by kernel_rfl) k s (by kernel_rfl)).trans (congrFun (congrFun (F72.e17 k) (frOf [a0])) s)

/-! cmp.isNaN[uint8]: function 75 -/
noncomputable def F75.code : Code := bodyOf Try.f75
noncomputable def F75.rs : List ResultVar := Try.f75.results.toList
noncomputable abbrev F75.X (k : Nat) (c : Code) (n : Kz) (x : Nat → Kz) : Kz := exec Try.prog (rn k) k 6 c ⟨n, x, retK Try.prog F75.rs⟩
noncomputable def F75.p0 (k : Nat) (x0 : AV) (s : Store) : Rz :=
  aBin .neq x0 x0 fun v1 => some (v1, s)
noncomputable abbrev F75.q0 (k : Nat) : Kz := fun fr s => F75.p0 k (fr 0) s
theorem F75.e0 (k : Nat) : F75.X k F75.code (retK Try.prog F75.rs) xN = (F75.q0 k) := lE
noncomputable def F75.f (k : Nat) (a0 : AV) (s : Store) : Rz := F75.p0 k a0 s
theorem F75.eq (k : Nat) (a0 : AV) (s : Store) : rn (k + 1) 75 [a0] s = F75.f k a0 s :=
  (rn_eq Try.func75 (by kernel_rfl) (by kernel_rfl) (by kernel_rfl) k s (by kernel_rfl)).trans (congrFun (congrFun (F75.e0 k) (frOf [a0])) s)

/-! cmp.Compare[uint8]: function 73 -/
noncomputable def F73.code : Code := bodyOf Try.f73
noncomputable def F73.rs : List ResultVar := Try.f73.results.toList
noncomputable abbrev F73.X (k : Nat) (c : Code) (n : Kz) (x : Nat → Kz) : Kz := exec Try.prog (rn k) k 20 c ⟨n, x, retK Try.prog F73.rs⟩
noncomputable def F73.p0 (k : Nat) (x0 x1 : AV) (s : Store) : Rz :=
  (rn k 75 [x0] s).bind fun q1 => (rn k 75 [x1] q1.2).bind fun q2 => aIf q1.1 (aIf q2.1 (some ((AV.int .i64 0), q2.2)) (some ((AV.int .i64 (-1)), q2.2))) (aIf q2.1 (some ((AV.int .i64 1), q2.2)) (aBin .lss x0 x1 fun v3 => aIf v3 (some ((AV.int .i64 (-1)), q2.2)) (aBin .gtr x0 x1 fun v4 => aIf v4 (some ((AV.int .i64 1), q2.2)) (some ((AV.int .i64 0), q2.2)))))
noncomputable abbrev F73.q0 (k : Nat) : Kz := fun fr s => F73.p0 k (fr 0) (fr 1) s
theorem F73.e0 (k : Nat) : F73.X k F73.code (retK Try.prog F73.rs) xN = (F73.q0 k) := lE
noncomputable def F73.f (k : Nat) (a0 a1 : AV) (s : Store) : Rz := F73.p0 k a0 a1 s
theorem F73.eq (k : Nat) (a0 a1 : AV) (s : Store) : rn (k + 1) 73 [a0, a1] s = F73.f k a0 a1 s :=
  (rn_eq Try.func73 (by kernel_rfl) (by kernel_rfl) (by kernel_rfl) k s (by kernel_rfl)).trans (congrFun (congrFun (F73.e0 k) (frOf [a0, a1])) s)

/-! cmp.isNaN[uint64]: function 76 -/
noncomputable def F76.code : Code := bodyOf Try.f76
noncomputable def F76.rs : List ResultVar := Try.f76.results.toList
noncomputable abbrev F76.X (k : Nat) (c : Code) (n : Kz) (x : Nat → Kz) : Kz := exec Try.prog (rn k) k 6 c ⟨n, x, retK Try.prog F76.rs⟩
noncomputable def F76.p0 (k : Nat) (x0 : AV) (s : Store) : Rz :=
  aBin .neq x0 x0 fun v1 => some (v1, s)
noncomputable abbrev F76.q0 (k : Nat) : Kz := fun fr s => F76.p0 k (fr 0) s
theorem F76.e0 (k : Nat) : F76.X k F76.code (retK Try.prog F76.rs) xN = (F76.q0 k) := lE
noncomputable def F76.f (k : Nat) (a0 : AV) (s : Store) : Rz := F76.p0 k a0 s
theorem F76.eq (k : Nat) (a0 : AV) (s : Store) : rn (k + 1) 76 [a0] s = F76.f k a0 s :=
  (rn_eq Try.func76 (by kernel_rfl) (by kernel_rfl) (by kernel_rfl) k s (by kernel_rfl)).trans (congrFun (congrFun (F76.e0 k) (frOf [a0])) s)

/-! cmp.Compare[uint64]: function 74 -/
noncomputable def F74.code : Code := bodyOf Try.f74
noncomputable def F74.rs : List ResultVar := Try.f74.results.toList
noncomputable abbrev F74.X (k : Nat) (c : Code) (n : Kz) (x : Nat → Kz) : Kz := exec Try.prog (rn k) k 20 c ⟨n, x, retK Try.prog F74.rs⟩
noncomputable def F74.p0 (k : Nat) (x0 x1 : AV) (s : Store) : Rz :=
  (rn k 76 [x0] s).bind fun q1 => (rn k 76 [x1] q1.2).bind fun q2 => aIf q1.1 (aIf q2.1 (some ((AV.int .i64 0), q2.2)) (some ((AV.int .i64 (-1)), q2.2))) (aIf q2.1 (some ((AV.int .i64 1), q2.2)) (aBin .lss x0 x1 fun v3 => aIf v3 (some ((AV.int .i64 (-1)), q2.2)) (aBin .gtr x0 x1 fun v4 => aIf v4 (some ((AV.int .i64 1), q2.2)) (some ((AV.int .i64 0), q2.2)))))
noncomputable abbrev F74.q0 (k : Nat) : Kz := fun fr s => F74.p0 k (fr 0) (fr 1) s
theorem F74.e0 (k : Nat) : F74.X k F74.code (retK Try.prog F74.rs) xN = (F74.q0 k) := lE
noncomputable def F74.f (k : Nat) (a0 a1 : AV) (s : Store) : Rz := F74.p0 k a0 a1 s
theorem F74.eq (k : Nat) (a0 a1 : AV) (s : Store) : rn (k + 1) 74 [a0, a1] s = F74.f k a0 a1 s :=
  (rn_eq Try.func74 (by kernel_rfl) (by kernel_rfl) (by kernel_rfl) k s (by kernel_rfl)).trans (congrFun (congrFun (F74.e0 k) (frOf [a0, a1])) s)

/-! unison/ident.order: function 71 -/
noncomputable def F71.code : Code := bodyOf Try.f71
noncomputable def F71.rs : List ResultVar := Try.f71.results.toList
noncomputable abbrev F71.X (k : Nat) (c : Code) (n : Kz) (x : Nat → Kz) : Kz := exec Try.prog (rn k) k 17 c ⟨n, x, retK Try.prog F71.rs⟩
noncomputable abbrev F71.c0 : Code := cR F71.code
noncomputable abbrev F71.c1 : Code := cR F71.c0
noncomputable def F71.p0 (k : Nat) (x4 : AV) (s : Store) : Rz :=
  some (x4, s)
noncomputable abbrev F71.q0 (k : Nat) : Kz := fun fr s => F71.p0 k (fr 4) s
theorem F71.e0 (k : Nat) : F71.X k F71.c1 (retK Try.prog F71.rs) xN = (F71.q0 k) := lE
noncomputable abbrev F71.c2 : Code := cL F71.c0
noncomputable def F71.p1 (k : Nat) (x2 x3 : AV) (s : Store) : Rz :=
  (aFieldAddr 0 x2 fun v2 => some (v2, s)).bind fun q1 => (aLoad1 q1.1 q1.2 fun v4 => some (v4, q1.2)).bind fun q3 => (aFieldAddr 0 x3 fun v6 => some (v6, q3.2)).bind fun q5 => (aLoad1 q5.1 q5.2 fun v8 => some (v8, q5.2)).bind fun q7 => ((rn k 73 [q3.1, q7.1] q7.2).bind fun q10 => some (q10.1, q10.2)).bind fun q9 => (aFieldAddr 1 x2 fun v12 => some (v12, q9.2)).bind fun q11 => (aLoad1 q11.1 q11.2 fun v14 => some (v14, q11.2)).bind fun q13 => (aLoad1 q11.1 q7.2 fun v15 => some (v15, q7.2)).bind fun z16 => aSame z16.1 q13.1 <| (aFieldAddr 1 x3 fun v18 => some (v18, q13.2)).bind fun q17 => (aLoad1 q17.1 q17.2 fun v20 => some (v20, q17.2)).bind fun q19 => (aLoad1 q17.1 q7.2 fun v21 => some (v21, q7.2)).bind fun z22 => aSame z22.1 q19.1 <| ((rn k 74 [q13.1, q19.1] q19.2).bind fun q24 => some (q24.1, q24.2)).bind fun q23 => (aBuild [(0, 1, q9.1), (1, 1, q23.1)] [AV.int .i64 0, AV.int .i64 0] fun c26 => some ((AV.sl q23.2.next 0 2 1 2), (q23.2.push (.cells c26 false)))).bind fun q25 => ((rn k 72 [q25.1] q25.2).bind fun q28 => some (q28.1, q28.2)).bind fun q27 => (some (q27.1, q27.2)).bind fun q29 => F71.p0 k q29.1 q29.2
noncomputable abbrev F71.q1 (k : Nat) : Kz := fun fr s => F71.p1 k (fr 2) (fr 3) s
theorem F71.e1 (k : Nat) : F71.X k F71.c2 (F71.q0 k) xN = (F71.q1 k) := drawE [0, 1, 0, 4, 15, 0, 32, 0, 128, 511, 1023, 2047, 4095]
theorem F71.e2 (k : Nat) : F71.X k F71.c0 (retK Try.prog F71.rs) xN = (F71.q1 k) := seqE (F71.e0 k) (F71.e1 k)
noncomputable abbrev F71.c3 : Code := cL F71.code
noncomputable def F71.p2 (k : Nat) (x0 x1 : AV) (s : Store) : Rz :=
  aCells x0 fun c1 => aNew c1 s fun v2 s3 => aCells x1 fun c4 => aNew c4 s3 fun v5 s6 => F71.p1 k v2 v5 s6
noncomputable abbrev F71.q2 (k : Nat) : Kz := fun fr s => F71.p2 k (fr 0) (fr 1) s
theorem F71.e3 (k : Nat) : F71.X k F71.c3 (F71.q1 k) xN = (F71.q2 k) := lE
theorem F71.e4 (k : Nat) : F71.X k F71.code (retK Try.prog F71.rs) xN = (F71.q2 k) := seqE (F71.e2 k) (F71.e3 k)
noncomputable def F71.f (k : Nat) (a0 a1 : AV) (s : Store) : Rz := F71.p2 k a0 a1 s
theorem F71.eq (k : Nat) (a0 a1 : AV) (s : Store) : rn (k + 1) 71 [a0, a1] s = F71.f k a0 a1 s :=
  (rn_eq Try.func71 (by kernel_rfl) (by kernel_rfl) (by kernel_rfl) k s (by kernel_rfl)).trans (congrFun (congrFun (F71.e4 k) (frOf [a0, a1])) s)

/-! unison/ident.Less: function 66 -/
noncomputable def F66.code : Code := bodyOf Try.f66
noncomputable def F66.rs : List ResultVar := Try.f66.results.toList
noncomputable abbrev F66.X (k : Nat) (c : Code) (n : Kz) (x : Nat → Kz) : Kz := exec Try.prog (rn k) k 9 c ⟨n, x, retK Try.prog F66.rs⟩
noncomputable def F66.p0 (k : Nat) (x0 x1 : AV) (s : Store) : Rz :=
  aCells x0 fun c1 => aNew c1 s fun v2 s3 => aCells x1 fun c4 => aNew c4 s3 fun v5 s6 => aLoadN 2 v2 s6 fun v7 => aLoadN 2 v5 s6 fun v8 => (rn k 71 [v7, v8] s6).bind fun q9 => aBin .lss q9.1 (AV.int .i64 0) fun v10 => some (v10, q9.2)
noncomputable abbrev F66.q0 (k : Nat) : Kz := fun fr s => F66.p0 k (fr 0) (fr 1) s
theorem F66.e0 (k : Nat) : F66.X k F66.code (retK Try.prog F66.rs) xN = (F66.q0 k) := lE
noncomputable def F66.f (k : Nat) (a0 a1 : AV) (s : Store) : Rz := F66.p0 k a0 a1 s
theorem F66.eq (k : Nat) (a0 a1 : AV) (s : Store) : rn (k + 1) 66 [a0, a1] s = F66.f k a0 a1 s :=
  (rn_eq Try.func66 (by kernel_rfl) (by kernel_rfl) (by kernel_rfl) k s (by kernel_rfl)).trans (congrFun (congrFun (F66.e0 k) (frOf [a0, a1])) s)

/-! unison/ident.behind: function 67 -/
noncomputable def F67.code : Code := bodyOf Try.f67
noncomputable def F67.rs : List ResultVar := Try.f67.results.toList
noncomputable abbrev F67.X (k : Nat) (c : Code) (n : Kz) (x : Nat → Kz) : Kz := exec Try.prog (rn k) k 11 c ⟨n, x, retK Try.prog F67.rs⟩
noncomputable def F67.p0 (k : Nat) (x0 : AV) (s : Store) : Rz :=
  aCells x0 fun c1 => aNew c1 s fun v2 s3 => aNew [AV.int .u8 0, AV.int .u64 0] s3 fun v4 s5 => aFieldAddr 0 v2 fun v6 => aLoad1 v6 s5 fun v7 => aFieldAddr 1 v2 fun v8 => aLoad1 v8 s5 fun v9 => aFieldAddr 2 v2 fun v10 => aLoad1 v10 s5 fun v11 => aBin .add v9 v11 fun v12 => aBuild [(0, 1, v7), (1, 1, v12)] [AV.int .u8 0, AV.int .u64 0] fun c13 => aStore 2 v4 (AV.agg c13) s5 fun s14 => aLoadN 2 v4 s14 fun v15 => some (v15, s14)
noncomputable abbrev F67.q0 (k : Nat) : Kz := fun fr s => F67.p0 k (fr 0) s
theorem F67.e0 (k : Nat) : F67.X k F67.code (retK Try.prog F67.rs) xN = (F67.q0 k) := lE
noncomputable def F67.f (k : Nat) (a0 : AV) (s : Store) : Rz := F67.p0 k a0 s
theorem F67.eq (k : Nat) (a0 : AV) (s : Store) : rn (k + 1) 67 [a0] s = F67.f k a0 s :=
  (rn_eq Try.func67 (by kernel_rfl) (by kernel_rfl) (by kernel_rfl) k s (by kernel_rfl)).trans (congrFun (congrFun (F67.e0 k) (frOf [a0])) s)

/-! unison/ident.Rows: function 57 -/
noncomputable def F57.code : Code := bodyOf Try.f57
noncomputable def F57.rs : List ResultVar := Try.f57.results.toList
noncomputable abbrev F57.X (k : Nat) (c : Code) (n : Kz) (x : Nat → Kz) : Kz := exec Try.prog (rn k) k 33 c ⟨n, x, retK Try.prog F57.rs⟩
noncomputable abbrev F57.c0 : Code := cR F57.code
noncomputable abbrev F57.c1 : Code := cR F57.c0
noncomputable def F57.p0 (k : Nat) (s : Store) : Rz :=
  some ((AV.bool true), s)
noncomputable abbrev F57.q0 (k : Nat) : Kz := fun fr s => F57.p0 k s
theorem F57.e0 (k : Nat) : F57.X k F57.c1 (retK Try.prog F57.rs) xN = (F57.q0 k) := lE
noncomputable abbrev F57.c2 : Code := cL F57.c0
noncomputable abbrev F57.c3 : Code := cR F57.c2
noncomputable abbrev F57.x0 (k : Nat) : Nat → Kz := xB 0 (F57.q0 k) xN
noncomputable abbrev F57.c4 : Code := cB F57.c3
noncomputable abbrev F57.c5 : Code := cB F57.c4
noncomputable abbrev F57.c6 : Code := cR F57.c5
noncomputable abbrev F57.c7 : Code := cR F57.c6
noncomputable abbrev F57.c8 : Code := cR F57.c7
noncomputable def F57.p1 (k : Nat) (R0 : Ar4) (x0 x5 x6 x7 : AV) (s : Store) : Rz :=
  aBin .add x7 (AV.int .i64 1) fun v1 => R0 x0 x5 x6 v1 s
noncomputable abbrev F57.q1 (k : Nat) (R0 : Ar4) : Kz := fun fr s => F57.p1 k R0 (fr 0) (fr 5) (fr 6) (fr 7) s
theorem F57.e1 (k : Nat) (R0 : Ar4) : F57.X k F57.c8 (fun fr s => R0 (fr 0) (fr 5) (fr 6) (fr 7) s) (F57.x0 k) = (F57.q1 k R0) := lE
noncomputable abbrev F57.c9 : Code := cL F57.c7
noncomputable abbrev F57.x1 (k : Nat) (R0 : Ar4) : Nat → Kz := xB 1 (F57.q1 k R0) (F57.x0 k)
noncomputable abbrev F57.c10 : Code := cB F57.c9
noncomputable abbrev F57.c11 : Code := cR F57.c10
noncomputable abbrev F57.c12 : Code := cR F57.c11
noncomputable abbrev F57.c13 : Code := cR F57.c12
noncomputable def F57.p2 (k : Nat) (R0 : Ar4) (x0 x5 x6 x7 x31 : AV) (s : Store) : Rz :=
  aIf x31 (some ((AV.bool false), s)) (F57.p1 k R0 x0 x5 x6 x7 s)
noncomputable abbrev F57.q2 (k : Nat) (R0 : Ar4) : Kz := fun fr s => F57.p2 k R0 (fr 0) (fr 5) (fr 6) (fr 7) (fr 31) s
theorem F57.e2 (k : Nat) (R0 : Ar4) : F57.X k F57.c13 (F57.q1 k R0) (F57.x1 k R0) = (F57.q2 k R0) := lE
noncomputable abbrev F57.c14 : Code := cL F57.c12
noncomputable def F57.p3 (k : Nat) (R0 : Ar4) (x0 x3 x4 x5 x6 x7 : AV) (s : Store) : Rz :=
  (some (x3, s)).bind fun q1 => (aBin .gtr q1.1 (AV.int .i64 0) fun v3 => some (v3, q1.2)).bind fun q2 => (some (q2.1, q2.2)).bind fun q4 => (aGuard q4.1 true (some (x0, q4.2)) (some (AV.tuple [], q4.2))).bind fun q5 => (aGuard q4.1 true (some (x3, q5.2)) (some (AV.tuple [], q5.2))).bind fun q6 => (aGuard q4.1 true (aBin .sub q6.1 (AV.int .i64 1) fun v8 => some (v8, q6.2)) (some (AV.tuple [], q6.2))).bind fun q7 => (aGuard q4.1 true (aIndexSl 3 q5.1 q7.1 fun v10 => some (v10, q7.2)) (some (AV.tuple [], q7.2))).bind fun q9 => (aGuard q4.1 true (aLoadN 3 q9.1 q9.2 fun v12 => some (v12, q9.2)) (some (AV.tuple [], q9.2))).bind fun q11 => (aGuard q4.1 true ((rn k 67 [q11.1] q11.2).bind fun q14 => some (q14.1, q14.2)) (some (AV.tuple [], q11.2))).bind fun q13 => (aGuard q4.1 true (aFieldAddr 0 x4 fun v16 => some (v16, q13.2)) (some (AV.tuple [], q13.2))).bind fun q15 => (aGuard q4.1 true (aLoad1 q15.1 q15.2 fun v18 => some (v18, q15.2)) (some (AV.tuple [], q15.2))).bind fun q17 => (aGuard q4.1 true (aLoad1 q15.1 q11.2 fun v19 => some (v19, q11.2)) (some (AV.tuple [], q11.2))).bind fun z20 => aSame z20.1 q17.1 <| (aGuard q4.1 true (aFieldAddr 1 x4 fun v22 => some (v22, q17.2)) (some (AV.tuple [], q17.2))).bind fun q21 => (aGuard q4.1 true (aLoad1 q21.1 q21.2 fun v24 => some (v24, q21.2)) (some (AV.tuple [], q21.2))).bind fun q23 => (aGuard q4.1 true (aLoad1 q21.1 q11.2 fun v25 => some (v25, q11.2)) (some (AV.tuple [], q11.2))).bind fun z26 => aSame z26.1 q23.1 <| (aGuard q4.1 true (aBuild [(0, 1, q17.1), (1, 1, q23.1)] [AV.int .u8 0, AV.int .u64 0] fun c28 => some ((AV.agg c28), q23.2)) (some (AV.tuple [], q23.2))).bind fun q27 => (aGuard q4.1 true ((rn k 66 [q13.1, q27.1] q27.2).bind fun q30 => some (q30.1, q30.2)) (some (AV.tuple [], q27.2))).bind fun q29 => (aGuard q4.1 true (aUn .not q29.1 fun v32 => some (v32, q29.2)) (some (AV.tuple [], q29.2))).bind fun q31 => (aPick q4.1 q31.1 (AV.bool false) fun v34 => some (v34, q31.2)).bind fun q33 => F57.p2 k R0 x0 x5 x6 x7 q33.1 q33.2
noncomputable abbrev F57.q3 (k : Nat) (R0 : Ar4) : Kz := fun fr s => F57.p3 k R0 (fr 0) (fr 3) (fr 4) (fr 5) (fr 6) (fr 7) s
theorem F57.e3 (k : Nat) (R0 : Ar4) : F57.X k F57.c14 (F57.q2 k R0) (F57.x1 k R0) = (F57.q3 k R0) := drawE [0, 1, 3, 7, 7, 23, 63, 127, 255, 7, 519, 7, 2055, 7687, 16383, 32767, 65535]
theorem F57.e4 (k : Nat) (R0 : Ar4) : F57.X k F57.c12 (F57.q1 k R0) (F57.x1 k R0) = (F57.q3 k R0) := seqE (F57.e2 k R0) (F57.e3 k R0)
noncomputable abbrev F57.c15 : Code := cL F57.c11
noncomputable def F57.p4 (k : Nat) (R0 : Ar4) (x0 x3 x4 x5 x6 x7 : AV) (s : Store) : Rz :=
  aLoadN 3 x4 s fun v1 => (rn k 65 [v1] s).bind fun q2 => aUn .not q2.1 fun v3 => aIf v3 (some ((AV.bool false), q2.2)) (F57.p3 k R0 x0 x3 x4 x5 x6 x7 q2.2)
noncomputable abbrev F57.q4 (k : Nat) (R0 : Ar4) : Kz := fun fr s => F57.p4 k R0 (fr 0) (fr 3) (fr 4) (fr 5) (fr 6) (fr 7) s
theorem F57.e5 (k : Nat) (R0 : Ar4) : F57.X k F57.c15 (F57.q3 k R0) (F57.x1 k R0) = (F57.q4 k R0) := lE
theorem F57.e6 (k : Nat) (R0 : Ar4) : F57.X k F57.c11 (F57.q1 k R0) (F57.x1 k R0) = (F57.q4 k R0) := seqE (F57.e4 k R0) (F57.e5 k R0)
noncomputable abbrev F57.c16 : Code := cL F57.c10
noncomputable def F57.p5 (k : Nat) (R0 : Ar4) (x0 x5 x6 x7 : AV) (s : Store) : Rz :=
  aIndexSl 3 x5 x7 fun v1 => aLoadN 3 v1 s fun v2 => aNew [AV.int .u8 0, AV.int .u64 0, AV.int .u64 0] s fun v3 s4 => aStore 3 v3 v2 s4 fun s5 => F57.p4 k R0 x0 x7 v3 x5 x6 x7 s5
noncomputable abbrev F57.q5 (k : Nat) (R0 : Ar4) : Kz := fun fr s => F57.p5 k R0 (fr 0) (fr 5) (fr 6) (fr 7) s
theorem F57.e7 (k : Nat) (R0 : Ar4) : F57.X k F57.c16 (F57.q4 k R0) (F57.x1 k R0) = (F57.q5 k R0) := lE
theorem F57.e8 (k : Nat) (R0 : Ar4) : F57.X k F57.c10 (F57.q1 k R0) (F57.x1 k R0) = (F57.q5 k R0) := seqE (F57.e6 k R0) (F57.e7 k R0)
theorem F57.e9 (k : Nat) (R0 : Ar4) : F57.X k F57.c9 (F57.q1 k R0) (F57.x0 k) = (F57.q5 k R0) := blockE (i := 1) (F57.e8 k R0)
theorem F57.e10 (k : Nat) (R0 : Ar4) : F57.X k F57.c7 (fun fr s => R0 (fr 0) (fr 5) (fr 6) (fr 7) s) (F57.x0 k) = (F57.q5 k R0) := seqE (F57.e1 k R0) (F57.e9 k R0)
noncomputable abbrev F57.c17 : Code := cL F57.c6
noncomputable def F57.p6 (k : Nat) (R0 : Ar4) (x0 x5 x6 x7 x8 : AV) (s : Store) : Rz :=
  aIf x8 (F57.p5 k R0 x0 x5 x6 x7 s) (F57.p0 k s)
noncomputable abbrev F57.q6 (k : Nat) (R0 : Ar4) : Kz := fun fr s => F57.p6 k R0 (fr 0) (fr 5) (fr 6) (fr 7) (fr 8) s
theorem F57.e11 (k : Nat) (R0 : Ar4) : F57.X k F57.c17 (F57.q5 k R0) (F57.x0 k) = (F57.q6 k R0) := lE
theorem F57.e12 (k : Nat) (R0 : Ar4) : F57.X k F57.c6 (fun fr s => R0 (fr 0) (fr 5) (fr 6) (fr 7) s) (F57.x0 k) = (F57.q6 k R0) := seqE (F57.e10 k R0) (F57.e11 k R0)
noncomputable abbrev F57.c18 : Code := cL F57.c5
noncomputable def F57.p7 (k : Nat) (R0 : Ar4) (x0 x5 x6 x7 : AV) (s : Store) : Rz :=
  aBin .lss x7 x6 fun v1 => F57.p6 k R0 x0 x5 x6 x7 v1 s
noncomputable abbrev F57.q7 (k : Nat) (R0 : Ar4) : Kz := fun fr s => F57.p7 k R0 (fr 0) (fr 5) (fr 6) (fr 7) s
theorem F57.e13 (k : Nat) (R0 : Ar4) : F57.X k F57.c18 (F57.q6 k R0) (F57.x0 k) = (F57.q7 k R0) := lE
theorem F57.e14 (k : Nat) (R0 : Ar4) : F57.X k F57.c5 (fun fr s => R0 (fr 0) (fr 5) (fr 6) (fr 7) s) (F57.x0 k) = (F57.q7 k R0) := seqE (F57.e12 k R0) (F57.e13 k R0)
noncomputable def F57.l0 (k : Nat) : Nat → Ar4 := iterF (fun _ _ _ _ _ => none) (fun R0 x0 x5 x6 x7 s => F57.p7 k R0 x0 x5 x6 x7 s)
theorem F57.e15 (k : Nat) : F57.X k F57.c4 (F57.q0 k) (F57.x0 k) = (fun fr s => F57.l0 k k (fr 0) (fr 5) (fr 6) (fr 7) s) := loopE (fun R0 : Ar4 => (fun fr s => R0 (fr 0) (fr 5) (fr 6) (fr 7) s)) (z := (fun _ _ _ _ _ => none)) (B := (fun R0 x0 x5 x6 x7 s => F57.p7 k R0 x0 x5 x6 x7 s)) rfl (fun R0 => F57.e14 k R0)
theorem F57.e16 (k : Nat) : F57.X k F57.c3 (F57.q0 k) xN = (fun fr s => F57.l0 k k (fr 0) (fr 5) (fr 6) (fr 7) s) := blockE (i := 0) (F57.e15 k)
noncomputable abbrev F57.c19 : Code := cL F57.c2
noncomputable def F57.p8 (k : Nat) (x0 : AV) (s : Store) : Rz :=
  aLen x0 fun v1 => F57.l0 k k x0 x0 v1 (AV.int .i64 0) s
noncomputable abbrev F57.q8 (k : Nat) : Kz := fun fr s => F57.p8 k (fr 0) s
theorem F57.e17 (k : Nat) : F57.X k F57.c19 (fun fr s => F57.l0 k k (fr 0) (fr 5) (fr 6) (fr 7) s) xN = (F57.q8 k) := lE
theorem F57.e18 (k : Nat) : F57.X k F57.c2 (F57.q0 k) xN = (F57.q8 k) := seqE (F57.e16 k) (F57.e17 k)
theorem F57.e19 (k : Nat) : F57.X k F57.c0 (retK Try.prog F57.rs) xN = (F57.q8 k) := seqE (F57.e0 k) (F57.e18 k)
noncomputable abbrev F57.c20 : Code := cL F57.code
noncomputable def F57.p9 (k : Nat) (x0 : AV) (s : Store) : Rz :=
  F57.p8 k x0 s
noncomputable abbrev F57.q9 (k : Nat) : Kz := fun fr s => F57.p9 k (fr 0) s
theorem F57.e20 (k : Nat) : F57.X k F57.c20 (F57.q8 k) xN = (F57.q9 k) := lE
theorem F57.e21 (k : Nat) : F57.X k F57.code (retK Try.prog F57.rs) xN = (F57.q9 k) := seqE (F57.e19 k) (F57.e20 k)
noncomputable def F57.f (k : Nat) (a0 : AV) (s : Store) : Rz := F57.p9 k a0 s
theorem F57.eq (k : Nat) (a0 : AV) (s : Store) : rn (k + 1) 57 [a0] s = F57.f k a0 s :=
  (rn_eq Try.func57 (by kernel_rfl) (by kernel_rfl) (by kernel_rfl) k s (by kernel_rfl)).trans (congrFun (congrFun (F57.e21 k) (frOf [a0])) s)

/-! unison/ident.Count: function 58 -/
noncomputable def F58.code : Code := bodyOf Try.f58
noncomputable def F58.rs : List ResultVar := Try.f58.results.toList
noncomputable abbrev F58.X (k : Nat) (c : Code) (n : Kz) (x : Nat → Kz) : Kz := exec Try.prog (rn k) k 21 c ⟨n, x, retK Try.prog F58.rs⟩
noncomputable abbrev F58.c0 : Code := cR F58.code
noncomputable abbrev F58.c1 : Code := cR F58.c0
noncomputable abbrev F58.c2 : Code := cR F58.c1
noncomputable def F58.p0 (k : Nat) (x3 : AV) (s : Store) : Rz :=
  some (x3, s)
noncomputable abbrev F58.q0 (k : Nat) : Kz := fun fr s => F58.p0 k (fr 3) s
theorem F58.e0 (k : Nat) : F58.X k F58.c2 (retK Try.prog F58.rs) xN = (F58.q0 k) := lE
noncomputable abbrev F58.c3 : Code := cL F58.c1
noncomputable abbrev F58.c4 : Code := cR F58.c3
noncomputable abbrev F58.x0 (k : Nat) : Nat → Kz := xB 0 (F58.q0 k) xN
noncomputable abbrev F58.c5 : Code := cB F58.c4
noncomputable abbrev F58.c6 : Code := cB F58.c5
noncomputable abbrev F58.c7 : Code := cR F58.c6
noncomputable abbrev F58.c8 : Code := cR F58.c7
noncomputable abbrev F58.c9 : Code := cR F58.c8
noncomputable def F58.p1 (k : Nat) (R0 : Ar4) (x3 x6 x7 x8 : AV) (s : Store) : Rz :=
  aBin .add x8 (AV.int .i64 1) fun v1 => R0 x3 x6 x7 v1 s
noncomputable abbrev F58.q1 (k : Nat) (R0 : Ar4) : Kz := fun fr s => F58.p1 k R0 (fr 3) (fr 6) (fr 7) (fr 8) s
theorem F58.e1 (k : Nat) (R0 : Ar4) : F58.X k F58.c9 (fun fr s => R0 (fr 3) (fr 6) (fr 7) (fr 8) s) (F58.x0 k) = (F58.q1 k R0) := lE
noncomputable abbrev F58.c10 : Code := cL F58.c8
noncomputable abbrev F58.x1 (k : Nat) (R0 : Ar4) : Nat → Kz := xB 1 (F58.q1 k R0) (F58.x0 k)
noncomputable abbrev F58.c11 : Code := cB F58.c10
noncomputable def F58.p2 (k : Nat) (R0 : Ar4) (x3 x6 x7 x8 : AV) (s : Store) : Rz :=
  aIndexSl 3 x6 x8 fun v1 => aLoadN 3 v1 s fun v2 => aNew [AV.int .u8 0, AV.int .u64 0, AV.int .u64 0] s fun v3 s4 => aStore 3 v3 v2 s4 fun s5 => aLoadN 3 v3 s5 fun v6 => (rn k 65 [v6] s5).bind fun q7 => aIf q7.1 (aFieldAddr 2 v3 fun v8 => aLoad1 v8 q7.2 fun v9 => aBin .add x3 v9 fun v10 => aMinL v10 [(AV.int .u64 4611686018427387904)] fun v11 => F58.p1 k R0 v11 x6 x7 x8 q7.2) (F58.p1 k R0 x3 x6 x7 x8 q7.2)
noncomputable abbrev F58.q2 (k : Nat) (R0 : Ar4) : Kz := fun fr s => F58.p2 k R0 (fr 3) (fr 6) (fr 7) (fr 8) s
theorem F58.e2 (k : Nat) (R0 : Ar4) : F58.X k F58.c11 (F58.q1 k R0) (F58.x1 k R0) = (F58.q2 k R0) := lE
theorem F58.e3 (k : Nat) (R0 : Ar4) : F58.X k F58.c10 (F58.q1 k R0) (F58.x0 k) = (F58.q2 k R0) := blockE (i := 1) (F58.e2 k R0)
theorem F58.e4 (k : Nat) (R0 : Ar4) : F58.X k F58.c8 (fun fr s => R0 (fr 3) (fr 6) (fr 7) (fr 8) s) (F58.x0 k) = (F58.q2 k R0) := seqE (F58.e1 k R0) (F58.e3 k R0)
noncomputable abbrev F58.c12 : Code := cL F58.c7
noncomputable def F58.p3 (k : Nat) (R0 : Ar4) (x3 x6 x7 x8 x9 : AV) (s : Store) : Rz :=
  aIf x9 (F58.p2 k R0 x3 x6 x7 x8 s) (F58.p0 k x3 s)
noncomputable abbrev F58.q3 (k : Nat) (R0 : Ar4) : Kz := fun fr s => F58.p3 k R0 (fr 3) (fr 6) (fr 7) (fr 8) (fr 9) s
theorem F58.e5 (k : Nat) (R0 : Ar4) : F58.X k F58.c12 (F58.q2 k R0) (F58.x0 k) = (F58.q3 k R0) := lE
theorem F58.e6 (k : Nat) (R0 : Ar4) : F58.X k F58.c7 (fun fr s => R0 (fr 3) (fr 6) (fr 7) (fr 8) s) (F58.x0 k) = (F58.q3 k R0) := seqE (F58.e4 k R0) (F58.e5 k R0)
noncomputable abbrev F58.c13 : Code := cL F58.c6
noncomputable def F58.p4 (k : Nat) (R0 : Ar4) (x3 x6 x7 x8 : AV) (s : Store) : Rz :=
  aBin .lss x8 x7 fun v1 => F58.p3 k R0 x3 x6 x7 x8 v1 s
noncomputable abbrev F58.q4 (k : Nat) (R0 : Ar4) : Kz := fun fr s => F58.p4 k R0 (fr 3) (fr 6) (fr 7) (fr 8) s
theorem F58.e7 (k : Nat) (R0 : Ar4) : F58.X k F58.c13 (F58.q3 k R0) (F58.x0 k) = (F58.q4 k R0) := lE
theorem F58.e8 (k : Nat) (R0 : Ar4) : F58.X k F58.c6 (fun fr s => R0 (fr 3) (fr 6) (fr 7) (fr 8) s) (F58.x0 k) = (F58.q4 k R0) := seqE (F58.e6 k R0) (F58.e7 k R0)
noncomputable def F58.l0 (k : Nat) : Nat → Ar4 := iterF (fun _ _ _ _ _ => none) (fun R0 x3 x6 x7 x8 s => F58.p4 k R0 x3 x6 x7 x8 s)
theorem F58.e9 (k : Nat) : F58.X k F58.c5 (F58.q0 k) (F58.x0 k) = (fun fr s => F58.l0 k k (fr 3) (fr 6) (fr 7) (fr 8) s) := loopE (fun R0 : Ar4 => (fun fr s => R0 (fr 3) (fr 6) (fr 7) (fr 8) s)) (z := (fun _ _ _ _ _ => none)) (B := (fun R0 x3 x6 x7 x8 s => F58.p4 k R0 x3 x6 x7 x8 s)) rfl (fun R0 => F58.e8 k R0)
theorem F58.e10 (k : Nat) : F58.X k F58.c4 (F58.q0 k) xN = (fun fr s => F58.l0 k k (fr 3) (fr 6) (fr 7) (fr 8) s) := blockE (i := 0) (F58.e9 k)
noncomputable abbrev F58.c14 : Code := cL F58.c3
noncomputable def F58.p5 (k : Nat) (x0 x3 : AV) (s : Store) : Rz :=
  aLen x0 fun v1 => F58.l0 k k x3 x0 v1 (AV.int .i64 0) s
noncomputable abbrev F58.q5 (k : Nat) : Kz := fun fr s => F58.p5 k (fr 0) (fr 3) s
theorem F58.e11 (k : Nat) : F58.X k F58.c14 (fun fr s => F58.l0 k k (fr 3) (fr 6) (fr 7) (fr 8) s) xN = (F58.q5 k) := lE
theorem F58.e12 (k : Nat) : F58.X k F58.c3 (F58.q0 k) xN = (F58.q5 k) := seqE (F58.e10 k) (F58.e11 k)
theorem F58.e13 (k : Nat) : F58.X k F58.c1 (retK Try.prog F58.rs) xN = (F58.q5 k) := seqE (F58.e0 k) (F58.e12 k)
noncomputable abbrev F58.c15 : Code := cL F58.c0
noncomputable def F58.p6 (k : Nat) (x0 : AV) (s : Store) : Rz :=
  F58.p5 k x0 (AV.int .u64 0) s
noncomputable abbrev F58.q6 (k : Nat) : Kz := fun fr s => F58.p6 k (fr 0) s
theorem F58.e14 (k : Nat) : F58.X k F58.c15 (F58.q5 k) xN = (F58.q6 k) := lE
theorem F58.e15 (k : Nat) : F58.X k F58.c0 (retK Try.prog F58.rs) xN = (F58.q6 k) := seqE (F58.e13 k) (F58.e14 k)
noncomputable abbrev F58.c16 : Code := cL F58.code
noncomputable def F58.p7 (k : Nat) (x0 : AV) (s : Store) : Rz :=
  F58.p6 k x0 s
noncomputable abbrev F58.q7 (k : Nat) : Kz := fun fr s => F58.p7 k (fr 0) s
theorem F58.e16 (k : Nat) : F58.X k F58.c16 (F58.q6 k) xN = (F58.q7 k) := lE
theorem F58.e17 (k : Nat) : F58.X k F58.code (retK Try.prog F58.rs) xN = (F58.q7 k) := seqE (F58.e15 k) (F58.e16 k)
noncomputable def F58.f (k : Nat) (a0 : AV) (s : Store) : Rz := F58.p7 k a0 s
theorem F58.eq (k : Nat) (a0 : AV) (s : Store) : rn (k + 1) 58 [a0] s = F58.f k a0 s :=
  (rn_eq Try.func58 (by kernel_rfl) (by kernel_rfl) (by kernel_rfl) k s (by kernel_rfl)).trans (congrFun (congrFun (F58.e17 k) (frOf [a0])) s)

/-! unison/unisonref03.Run: function 68 -/
noncomputable def F68.code : Code := bodyOf Try.f68
noncomputable def F68.rs : List ResultVar := Try.f68.results.toList
noncomputable abbrev F68.X (k : Nat) (c : Code) (n : Kz) (x : Nat → Kz) : Kz := exec Try.prog (rn k) k 28 c ⟨n, x, retK Try.prog F68.rs⟩
noncomputable def F68.p0 (k : Nat) (x0 : AV) (s : Store) : Rz :=
  aCells x0 fun c1 => aNew c1 s fun v2 s3 => aFieldAddr 0 v2 fun v4 => aLoad1 v4 s3 fun v5 => aBin .gtr v5 (AV.int .u8 63) fun v6 => (aGuard v6 false (aFieldAddr 1 v2 fun v8 => some (v8, s3)) (some (AV.tuple [], s3))).bind fun g7 => (aGuard v6 false (aLoad1 g7.1 g7.2 fun v10 => some (v10, g7.2)) (some (AV.tuple [], g7.2))).bind fun g9 => (aGuard v6 false (aBin .eql g9.1 (AV.int .u64 0) fun v12 => some (v12, g9.2)) (some (AV.tuple [], g9.2))).bind fun g11 => aPick v6 (AV.bool true) g11.1 fun v13 => (aGuard v13 false (aFieldAddr 2 v2 fun v15 => some (v15, g11.2)) (some (AV.tuple [], g11.2))).bind fun g14 => (aGuard v13 false (aLoad1 g14.1 g14.2 fun v17 => some (v17, g14.2)) (some (AV.tuple [], g14.2))).bind fun g16 => (aGuard v13 false (aBin .eql g16.1 (AV.int .u64 0) fun v19 => some (v19, g16.2)) (some (AV.tuple [], g16.2))).bind fun g18 => aPick v13 (AV.bool true) g18.1 fun v20 => (aGuard v20 false (aFieldAddr 1 v2 fun v22 => some (v22, g18.2)) (some (AV.tuple [], g18.2))).bind fun g21 => (aGuard v20 false (aLoad1 g21.1 g21.2 fun v24 => some (v24, g21.2)) (some (AV.tuple [], g21.2))).bind fun g23 => (aGuard v20 false (aBin .gtr g23.1 (AV.int .u64 4611686018427387904) fun v26 => some (v26, g23.2)) (some (AV.tuple [], g23.2))).bind fun g25 => aPick v20 (AV.bool true) g25.1 fun v27 => aIf v27 (some ((AV.bool false), g25.2)) (aFieldAddr 2 v2 fun v28 => aLoad1 v28 g25.2 fun v29 => aBin .sub v29 (AV.int .u64 1) fun v30 => aFieldAddr 1 v2 fun v31 => aLoad1 v31 g25.2 fun v32 => aBin .sub (AV.int .u64 4611686018427387904) v32 fun v33 => aBin .leq v30 v33 fun v34 => some (v34, g25.2))
noncomputable abbrev F68.q0 (k : Nat) : Kz := fun fr s => F68.p0 k (fr 0) s
theorem F68.e0 (k : Nat) : F68.X k F68.code (retK Try.prog F68.rs) xN = (F68.q0 k) := lE
noncomputable def F68.f (k : Nat) (a0 : AV) (s : Store) : Rz := F68.p0 k a0 s
theorem F68.eq (k : Nat) (a0 : AV) (s : Store) : rn (k + 1) 68 [a0] s = F68.f k a0 s :=
  (rn_eq Try.func68 (by kernel_rfl) (by kernel_rfl) (by kernel_rfl) k s (by kernel_rfl)).trans (congrFun (congrFun (F68.e0 k) (frOf [a0])) s)

/-! unison/unisonref03.Last: function 69 -/
noncomputable def F69.code : Code := bodyOf Try.f69
noncomputable def F69.rs : List ResultVar := Try.f69.results.toList
noncomputable abbrev F69.X (k : Nat) (c : Code) (n : Kz) (x : Nat → Kz) : Kz := exec Try.prog (rn k) k 9 c ⟨n, x, retK Try.prog F69.rs⟩
noncomputable def F69.p0 (k : Nat) (x0 : AV) (s : Store) : Rz :=
  aCells x0 fun c1 => aNew c1 s fun v2 s3 => aFieldAddr 1 v2 fun v4 => aLoad1 v4 s3 fun v5 => aFieldAddr 2 v2 fun v6 => aLoad1 v6 s3 fun v7 => aBin .sub v7 (AV.int .u64 1) fun v8 => aBin .add v5 v8 fun v9 => some (v9, s3)
noncomputable abbrev F69.q0 (k : Nat) : Kz := fun fr s => F69.p0 k (fr 0) s
theorem F69.e0 (k : Nat) : F69.X k F69.code (retK Try.prog F69.rs) xN = (F69.q0 k) := lE
noncomputable def F69.f (k : Nat) (a0 : AV) (s : Store) : Rz := F69.p0 k a0 s
theorem F69.eq (k : Nat) (a0 : AV) (s : Store) : rn (k + 1) 69 [a0] s = F69.f k a0 s :=
  (rn_eq Try.func69 (by kernel_rfl) (by kernel_rfl) (by kernel_rfl) k s (by kernel_rfl)).trans (congrFun (congrFun (F69.e0 k) (frOf [a0])) s)

/-! unison/unisonref03.Rows: function 59 -/
noncomputable def F59.code : Code := bodyOf Try.f59
noncomputable def F59.rs : List ResultVar := Try.f59.results.toList
noncomputable abbrev F59.X (k : Nat) (c : Code) (n : Kz) (x : Nat → Kz) : Kz := exec Try.prog (rn k) k 61 c ⟨n, x, retK Try.prog F59.rs⟩
noncomputable abbrev F59.c0 : Code := cR F59.code
noncomputable abbrev F59.c1 : Code := cR F59.c0
noncomputable def F59.p0 (k : Nat) (s : Store) : Rz :=
  some ((AV.bool true), s)
noncomputable abbrev F59.q0 (k : Nat) : Kz := fun fr s => F59.p0 k s
theorem F59.e0 (k : Nat) : F59.X k F59.c1 (retK Try.prog F59.rs) xN = (F59.q0 k) := lE
noncomputable abbrev F59.c2 : Code := cL F59.c0
noncomputable abbrev F59.c3 : Code := cR F59.c2
noncomputable abbrev F59.x0 (k : Nat) : Nat → Kz := xB 0 (F59.q0 k) xN
noncomputable abbrev F59.c4 : Code := cB F59.c3
noncomputable abbrev F59.c5 : Code := cB F59.c4
noncomputable abbrev F59.c6 : Code := cR F59.c5
noncomputable abbrev F59.c7 : Code := cR F59.c6
noncomputable abbrev F59.c8 : Code := cR F59.c7
noncomputable def F59.p1 (k : Nat) (R0 : Ar3) (x0 x5 x6 : AV) (s : Store) : Rz :=
  aBin .add x6 (AV.int .i64 1) fun v1 => R0 x0 x5 v1 s
noncomputable abbrev F59.q1 (k : Nat) (R0 : Ar3) : Kz := fun fr s => F59.p1 k R0 (fr 0) (fr 5) (fr 6) s
theorem F59.e1 (k : Nat) (R0 : Ar3) : F59.X k F59.c8 (fun fr s => R0 (fr 0) (fr 5) (fr 6) s) (F59.x0 k) = (F59.q1 k R0) := lE
noncomputable abbrev F59.c9 : Code := cL F59.c7
noncomputable abbrev F59.x1 (k : Nat) (R0 : Ar3) : Nat → Kz := xB 1 (F59.q1 k R0) (F59.x0 k)
noncomputable abbrev F59.c10 : Code := cB F59.c9
noncomputable abbrev F59.c11 : Code := cR F59.c10
noncomputable abbrev F59.c12 : Code := cR F59.c11
noncomputable abbrev F59.c13 : Code := cR F59.c12
noncomputable def F59.p2 (k : Nat) (R0 : Ar3) (x0 x5 x6 x59 : AV) (s : Store) : Rz :=
  aIf x59 (some ((AV.bool false), s)) (F59.p1 k R0 x0 x5 x6 s)
noncomputable abbrev F59.q2 (k : Nat) (R0 : Ar3) : Kz := fun fr s => F59.p2 k R0 (fr 0) (fr 5) (fr 6) (fr 59) s
theorem F59.e2 (k : Nat) (R0 : Ar3) : F59.X k F59.c13 (F59.q1 k R0) (F59.x1 k R0) = (F59.q2 k R0) := lE
noncomputable abbrev F59.c14 : Code := cL F59.c12
noncomputable def F59.p3 (k : Nat) (R0 : Ar3) (x0 x3 x5 x6 : AV) (s : Store) : Rz :=
  (some (x3, s)).bind fun q1 => (aBin .gtr q1.1 (AV.int .i64 0) fun v3 => some (v3, q1.2)).bind fun q2 => (some (q2.1, q2.2)).bind fun q4 => (aGuard q4.1 true (some (x0, q4.2)) (some (AV.tuple [], q4.2))).bind fun q5 => (aGuard q4.1 true (some (x3, q5.2)) (some (AV.tuple [], q5.2))).bind fun q6 => (aGuard q4.1 true (aIndexSl 3 q5.1 q6.1 fun v8 => some (v8, q6.2)) (some (AV.tuple [], q6.2))).bind fun q7 => (aGuard q4.1 true (aFieldAddr 0 q7.1 fun v10 => some (v10, q7.2)) (some (AV.tuple [], q7.2))).bind fun q9 => (aGuard q4.1 true (aLoad1 q9.1 q9.2 fun v12 => some (v12, q9.2)) (some (AV.tuple [], q9.2))).bind fun q11 => (aGuard q4.1 true (some (x0, q11.2)) (some (AV.tuple [], q11.2))).bind fun q13 => (aGuard q4.1 true (some (x3, q13.2)) (some (AV.tuple [], q13.2))).bind fun q14 => (aGuard q4.1 true (aBin .sub q14.1 (AV.int .i64 1) fun v16 => some (v16, q14.2)) (some (AV.tuple [], q14.2))).bind fun q15 => (aGuard q4.1 true (aIndexSl 3 q13.1 q15.1 fun v18 => some (v18, q15.2)) (some (AV.tuple [], q15.2))).bind fun q17 => (aGuard q4.1 true (aFieldAddr 0 q17.1 fun v20 => some (v20, q17.2)) (some (AV.tuple [], q17.2))).bind fun q19 => (aGuard q4.1 true (aLoad1 q19.1 q19.2 fun v22 => some (v22, q19.2)) (some (AV.tuple [], q19.2))).bind fun q21 => (aGuard q4.1 true (aBin .lss q11.1 q21.1 fun v24 => some (v24, q21.2)) (some (AV.tuple [], q21.2))).bind fun q23 => (aGuard q4.1 true (some (q23.1, q23.2)) (some (AV.tuple [], q23.2))).bind fun q25 => (aGuard q25.1 false (some (x0, q25.2)) (some (AV.tuple [], q25.2))).bind fun q26 => (aGuard q25.1 false (some (x3, q26.2)) (some (AV.tuple [], q26.2))).bind fun q27 => (aGuard q25.1 false (aIndexSl 3 q26.1 q27.1 fun v29 => some (v29, q27.2)) (some (AV.tuple [], q27.2))).bind fun q28 => (aGuard q25.1 false (aFieldAddr 0 q28.1 fun v31 => some (v31, q28.2)) (some (AV.tuple [], q28.2))).bind fun q30 => (aGuard q25.1 false (aLoad1 q30.1 q30.2 fun v33 => some (v33, q30.2)) (some (AV.tuple [], q30.2))).bind fun q32 => (aGuard q25.1 false (some (x0, q32.2)) (some (AV.tuple [], q32.2))).bind fun q34 => (aGuard q25.1 false (some (x3, q34.2)) (some (AV.tuple [], q34.2))).bind fun q35 => (aGuard q25.1 false (aBin .sub q35.1 (AV.int .i64 1) fun v37 => some (v37, q35.2)) (some (AV.tuple [], q35.2))).bind fun q36 => (aGuard q25.1 false (aIndexSl 3 q34.1 q36.1 fun v39 => some (v39, q36.2)) (some (AV.tuple [], q36.2))).bind fun q38 => (aGuard q25.1 false (aFieldAddr 0 q38.1 fun v41 => some (v41, q38.2)) (some (AV.tuple [], q38.2))).bind fun q40 => (aGuard q25.1 false (aLoad1 q40.1 q40.2 fun v43 => some (v43, q40.2)) (some (AV.tuple [], q40.2))).bind fun q42 => (aGuard q25.1 false (aBin .eql q32.1 q42.1 fun v45 => some (v45, q42.2)) (some (AV.tuple [], q42.2))).bind fun q44 => (aGuard q25.1 false (some (q44.1, q44.2)) (some (AV.tuple [], q44.2))).bind fun q46 => (aGuard q46.1 true (some (x0, q46.2)) (some (AV.tuple [], q46.2))).bind fun q47 => (aGuard q46.1 true (some (x3, q47.2)) (some (AV.tuple [], q47.2))).bind fun q48 => (aGuard q46.1 true (aIndexSl 3 q47.1 q48.1 fun v50 => some (v50, q48.2)) (some (AV.tuple [], q48.2))).bind fun q49 => (aGuard q46.1 true (aFieldAddr 1 q49.1 fun v52 => some (v52, q49.2)) (some (AV.tuple [], q49.2))).bind fun q51 => (aGuard q46.1 true (aLoad1 q51.1 q51.2 fun v54 => some (v54, q51.2)) (some (AV.tuple [], q51.2))).bind fun q53 => (aGuard q46.1 true (some (x0, q53.2)) (some (AV.tuple [], q53.2))).bind fun q55 => (aGuard q46.1 true (some (x3, q55.2)) (some (AV.tuple [], q55.2))).bind fun q56 => (aGuard q46.1 true (aBin .sub q56.1 (AV.int .i64 1) fun v58 => some (v58, q56.2)) (some (AV.tuple [], q56.2))).bind fun q57 => (aGuard q46.1 true (aIndexSl 3 q55.1 q57.1 fun v60 => some (v60, q57.2)) (some (AV.tuple [], q57.2))).bind fun q59 => (aGuard q46.1 true (aLoadN 3 q59.1 q59.2 fun v62 => some (v62, q59.2)) (some (AV.tuple [], q59.2))).bind fun q61 => (aGuard q46.1 true ((rn k 69 [q61.1] q61.2).bind fun q64 => some (q64.1, q64.2)) (some (AV.tuple [], q61.2))).bind fun q63 => (aGuard q46.1 true (aLoad1 q51.1 q63.2 fun v65 => some (v65, q63.2)) (some (AV.tuple [], q63.2))).bind fun z66 => aSame z66.1 q53.1 <| (aGuard q46.1 true (aBin .add q63.1 (AV.int .u64 1) fun v68 => some (v68, q63.2)) (some (AV.tuple [], q63.2))).bind fun q67 => (aGuard q46.1 true (aBin .leq q53.1 q67.1 fun v70 => some (v70, q67.2)) (some (AV.tuple [], q67.2))).bind fun q69 => (aGuard q25.1 false (aPick q46.1 q69.1 (AV.bool false) fun v72 => some (v72, q69.2)) (some (AV.tuple [], q69.2))).bind fun q71 => (aGuard q4.1 true (aPick q25.1 (AV.bool true) q71.1 fun v74 => some (v74, q71.2)) (some (AV.tuple [], q71.2))).bind fun q73 => (aPick q4.1 q73.1 (AV.bool false) fun v76 => some (v76, q73.2)).bind fun q75 => F59.p2 k R0 x0 x5 x6 q75.1 q75.2
noncomputable abbrev F59.q3 (k : Nat) (R0 : Ar3) : Kz := fun fr s => F59.p3 k R0 (fr 0) (fr 3) (fr 5) (fr 6) s
theorem F59.e3 (k : Nat) (R0 : Ar3) : F59.X k F59.c14 (F59.q2 k R0) (F59.x1 k R0) = (F59.q3 k R0) := drawE [0, 1, 3, 7, 7, 31, 63, 127, 7, 7, 519, 1799, 3847, 7943, 16383, 32767, 65535, 65535, 262143, 524287, 1048575, 65535, 65535, 4259839, 14745599, 31522815, 65077247, 134217727, 268435455, 536870911, 536870911, 2147483647, 4294967295, 8589934591, 536870911, 536870911, 34896609279, 120795955199, 258234908671, 533112815615, 1082868629503, 2199023255551, 4398046511103, 8796093022207, 17592186044415]
theorem F59.e4 (k : Nat) (R0 : Ar3) : F59.X k F59.c12 (F59.q1 k R0) (F59.x1 k R0) = (F59.q3 k R0) := seqE (F59.e2 k R0) (F59.e3 k R0)
noncomputable abbrev F59.c15 : Code := cL F59.c11
noncomputable def F59.p4 (k : Nat) (R0 : Ar3) (x0 x3 x5 x6 : AV) (s : Store) : Rz :=
  aIndexSl 3 x0 x3 fun v1 => aLoadN 3 v1 s fun v2 => (rn k 68 [v2] s).bind fun q3 => aUn .not q3.1 fun v4 => aIf v4 (some ((AV.bool false), q3.2)) (F59.p3 k R0 x0 x3 x5 x6 q3.2)
noncomputable abbrev F59.q4 (k : Nat) (R0 : Ar3) : Kz := fun fr s => F59.p4 k R0 (fr 0) (fr 3) (fr 5) (fr 6) s
theorem F59.e5 (k : Nat) (R0 : Ar3) : F59.X k F59.c15 (F59.q3 k R0) (F59.x1 k R0) = (F59.q4 k R0) := lE
theorem F59.e6 (k : Nat) (R0 : Ar3) : F59.X k F59.c11 (F59.q1 k R0) (F59.x1 k R0) = (F59.q4 k R0) := seqE (F59.e4 k R0) (F59.e5 k R0)
noncomputable abbrev F59.c16 : Code := cL F59.c10
noncomputable def F59.p5 (k : Nat) (R0 : Ar3) (x0 x5 x6 : AV) (s : Store) : Rz :=
  F59.p4 k R0 x0 x6 x5 x6 s
noncomputable abbrev F59.q5 (k : Nat) (R0 : Ar3) : Kz := fun fr s => F59.p5 k R0 (fr 0) (fr 5) (fr 6) s
theorem F59.e7 (k : Nat) (R0 : Ar3) : F59.X k F59.c16 (F59.q4 k R0) (F59.x1 k R0) = (F59.q5 k R0) := lE
theorem F59.e8 (k : Nat) (R0 : Ar3) : F59.X k F59.c10 (F59.q1 k R0) (F59.x1 k R0) = (F59.q5 k R0) := seqE (F59.e6 k R0) (F59.e7 k R0)
theorem F59.e9 (k : Nat) (R0 : Ar3) : F59.X k F59.c9 (F59.q1 k R0) (F59.x0 k) = (F59.q5 k R0) := blockE (i := 1) (F59.e8 k R0)
theorem F59.e10 (k : Nat) (R0 : Ar3) : F59.X k F59.c7 (fun fr s => R0 (fr 0) (fr 5) (fr 6) s) (F59.x0 k) = (F59.q5 k R0) := seqE (F59.e1 k R0) (F59.e9 k R0)
noncomputable abbrev F59.c17 : Code := cL F59.c6
noncomputable def F59.p6 (k : Nat) (R0 : Ar3) (x0 x5 x6 x7 : AV) (s : Store) : Rz :=
  aIf x7 (F59.p5 k R0 x0 x5 x6 s) (F59.p0 k s)
noncomputable abbrev F59.q6 (k : Nat) (R0 : Ar3) : Kz := fun fr s => F59.p6 k R0 (fr 0) (fr 5) (fr 6) (fr 7) s
theorem F59.e11 (k : Nat) (R0 : Ar3) : F59.X k F59.c17 (F59.q5 k R0) (F59.x0 k) = (F59.q6 k R0) := lE
theorem F59.e12 (k : Nat) (R0 : Ar3) : F59.X k F59.c6 (fun fr s => R0 (fr 0) (fr 5) (fr 6) s) (F59.x0 k) = (F59.q6 k R0) := seqE (F59.e10 k R0) (F59.e11 k R0)
noncomputable abbrev F59.c18 : Code := cL F59.c5
noncomputable def F59.p7 (k : Nat) (R0 : Ar3) (x0 x5 x6 : AV) (s : Store) : Rz :=
  aBin .lss x6 x5 fun v1 => F59.p6 k R0 x0 x5 x6 v1 s
noncomputable abbrev F59.q7 (k : Nat) (R0 : Ar3) : Kz := fun fr s => F59.p7 k R0 (fr 0) (fr 5) (fr 6) s
theorem F59.e13 (k : Nat) (R0 : Ar3) : F59.X k F59.c18 (F59.q6 k R0) (F59.x0 k) = (F59.q7 k R0) := lE
theorem F59.e14 (k : Nat) (R0 : Ar3) : F59.X k F59.c5 (fun fr s => R0 (fr 0) (fr 5) (fr 6) s) (F59.x0 k) = (F59.q7 k R0) := seqE (F59.e12 k R0) (F59.e13 k R0)
noncomputable def F59.l0 (k : Nat) : Nat → Ar3 := iterF (fun _ _ _ _ => none) (fun R0 x0 x5 x6 s => F59.p7 k R0 x0 x5 x6 s)
theorem F59.e15 (k : Nat) : F59.X k F59.c4 (F59.q0 k) (F59.x0 k) = (fun fr s => F59.l0 k k (fr 0) (fr 5) (fr 6) s) := loopE (fun R0 : Ar3 => (fun fr s => R0 (fr 0) (fr 5) (fr 6) s)) (z := (fun _ _ _ _ => none)) (B := (fun R0 x0 x5 x6 s => F59.p7 k R0 x0 x5 x6 s)) rfl (fun R0 => F59.e14 k R0)
theorem F59.e16 (k : Nat) : F59.X k F59.c3 (F59.q0 k) xN = (fun fr s => F59.l0 k k (fr 0) (fr 5) (fr 6) s) := blockE (i := 0) (F59.e15 k)
noncomputable abbrev F59.c19 : Code := cL F59.c2
noncomputable def F59.p8 (k : Nat) (x0 : AV) (s : Store) : Rz :=
  aLen x0 fun v1 => F59.l0 k k x0 v1 (AV.int .i64 0) s
noncomputable abbrev F59.q8 (k : Nat) : Kz := fun fr s => F59.p8 k (fr 0) s
theorem F59.e17 (k : Nat) : F59.X k F59.c19 (fun fr s => F59.l0 k k (fr 0) (fr 5) (fr 6) s) xN = (F59.q8 k) := lE
theorem F59.e18 (k : Nat) : F59.X k F59.c2 (F59.q0 k) xN = (F59.q8 k) := seqE (F59.e16 k) (F59.e17 k)
theorem F59.e19 (k : Nat) : F59.X k F59.c0 (retK Try.prog F59.rs) xN = (F59.q8 k) := seqE (F59.e0 k) (F59.e18 k)
noncomputable abbrev F59.c20 : Code := cL F59.code
noncomputable def F59.p9 (k : Nat) (x0 : AV) (s : Store) : Rz :=
  F59.p8 k x0 s
noncomputable abbrev F59.q9 (k : Nat) : Kz := fun fr s => F59.p9 k (fr 0) s
theorem F59.e20 (k : Nat) : F59.X k F59.c20 (F59.q8 k) xN = (F59.q9 k) := lE
theorem F59.e21 (k : Nat) : F59.X k F59.code (retK Try.prog F59.rs) xN = (F59.q9 k) := seqE (F59.e19 k) (F59.e20 k)
noncomputable def F59.f (k : Nat) (a0 : AV) (s : Store) : Rz := F59.p9 k a0 s
theorem F59.eq (k : Nat) (a0 : AV) (s : Store) : rn (k + 1) 59 [a0] s = F59.f k a0 s :=
  (rn_eq Try.func59 (by kernel_rfl) (by kernel_rfl) (by kernel_rfl) k s (by kernel_rfl)).trans (congrFun (congrFun (F59.e21 k) (frOf [a0])) s)

/-! unison/unisonref03.Count: function 60 -/
noncomputable def F60.code : Code := bodyOf Try.f60
noncomputable def F60.rs : List ResultVar := Try.f60.results.toList
noncomputable abbrev F60.X (k : Nat) (c : Code) (n : Kz) (x : Nat → Kz) : Kz := exec Try.prog (rn k) k 32 c ⟨n, x, retK Try.prog F60.rs⟩
noncomputable abbrev F60.c0 : Code := cR F60.code
noncomputable abbrev F60.c1 : Code := cR F60.c0
noncomputable abbrev F60.c2 : Code := cR F60.c1
noncomputable def F60.p0 (k : Nat) (x3 : AV) (s : Store) : Rz :=
  some (x3, s)
noncomputable abbrev F60.q0 (k : Nat) : Kz := fun fr s => F60.p0 k (fr 3) s
theorem F60.e0 (k : Nat) : F60.X k F60.c2 (retK Try.prog F60.rs) xN = (F60.q0 k) := lE
noncomputable abbrev F60.c3 : Code := cL F60.c1
noncomputable abbrev F60.c4 : Code := cR F60.c3
noncomputable abbrev F60.x0 (k : Nat) : Nat → Kz := xB 0 (F60.q0 k) xN
noncomputable abbrev F60.c5 : Code := cB F60.c4
noncomputable abbrev F60.c6 : Code := cB F60.c5
noncomputable abbrev F60.c7 : Code := cR F60.c6
noncomputable abbrev F60.c8 : Code := cR F60.c7
noncomputable abbrev F60.c9 : Code := cR F60.c8
noncomputable def F60.p1 (k : Nat) (R0 : Ar4) (x0 x3 x6 x7 : AV) (s : Store) : Rz :=
  aBin .add x7 (AV.int .i64 1) fun v1 => R0 x0 x3 x6 v1 s
noncomputable abbrev F60.q1 (k : Nat) (R0 : Ar4) : Kz := fun fr s => F60.p1 k R0 (fr 0) (fr 3) (fr 6) (fr 7) s
theorem F60.e1 (k : Nat) (R0 : Ar4) : F60.X k F60.c9 (fun fr s => R0 (fr 0) (fr 3) (fr 6) (fr 7) s) (F60.x0 k) = (F60.q1 k R0) := lE
noncomputable abbrev F60.c10 : Code := cL F60.c8
noncomputable abbrev F60.x1 (k : Nat) (R0 : Ar4) : Nat → Kz := xB 1 (F60.q1 k R0) (F60.x0 k)
noncomputable abbrev F60.c11 : Code := cB F60.c10
noncomputable def F60.p2 (k : Nat) (R0 : Ar4) (x0 x3 x6 x7 : AV) (s : Store) : Rz :=
  aIndexSl 3 x0 x7 fun v1 => aLoadN 3 v1 s fun v2 => (rn k 68 [v2] s).bind fun q3 => aIf q3.1 (aIndexSl 3 x0 x7 fun v4 => aFieldAddr 2 v4 fun v5 => aLoad1 v5 q3.2 fun v6 => aBin .sub (AV.int .u64 4611686018427387904) x3 fun v7 => aBin .gtr v6 v7 fun v8 => aIf v8 (some ((AV.int .u64 4611686018427387904), q3.2)) (aIndexSl 3 x0 x7 fun v9 => aFieldAddr 2 v9 fun v10 => aLoad1 v10 q3.2 fun v11 => aBin .add x3 v11 fun v12 => F60.p1 k R0 x0 v12 x6 x7 q3.2)) (F60.p1 k R0 x0 x3 x6 x7 q3.2)
noncomputable abbrev F60.q2 (k : Nat) (R0 : Ar4) : Kz := fun fr s => F60.p2 k R0 (fr 0) (fr 3) (fr 6) (fr 7) s
theorem F60.e2 (k : Nat) (R0 : Ar4) : F60.X k F60.c11 (F60.q1 k R0) (F60.x1 k R0) = (F60.q2 k R0) := lE
theorem F60.e3 (k : Nat) (R0 : Ar4) : F60.X k F60.c10 (F60.q1 k R0) (F60.x0 k) = (F60.q2 k R0) := blockE (i := 1) (F60.e2 k R0)
theorem F60.e4 (k : Nat) (R0 : Ar4) : F60.X k F60.c8 (fun fr s => R0 (fr 0) (fr 3) (fr 6) (fr 7) s) (F60.x0 k) = (F60.q2 k R0) := seqE (F60.e1 k R0) (F60.e3 k R0)
noncomputable abbrev F60.c12 : Code := cL F60.c7
noncomputable def F60.p3 (k : Nat) (R0 : Ar4) (x0 x3 x6 x7 x8 : AV) (s : Store) : Rz :=
  aIf x8 (F60.p2 k R0 x0 x3 x6 x7 s) (F60.p0 k x3 s)
noncomputable abbrev F60.q3 (k : Nat) (R0 : Ar4) : Kz := fun fr s => F60.p3 k R0 (fr 0) (fr 3) (fr 6) (fr 7) (fr 8) s
theorem F60.e5 (k : Nat) (R0 : Ar4) : F60.X k F60.c12 (F60.q2 k R0) (F60.x0 k) = (F60.q3 k R0) := lE
theorem F60.e6 (k : Nat) (R0 : Ar4) : F60.X k F60.c7 (fun fr s => R0 (fr 0) (fr 3) (fr 6) (fr 7) s) (F60.x0 k) = (F60.q3 k R0) := seqE (F60.e4 k R0) (F60.e5 k R0)
noncomputable abbrev F60.c13 : Code := cL F60.c6
noncomputable def F60.p4 (k : Nat) (R0 : Ar4) (x0 x3 x6 x7 : AV) (s : Store) : Rz :=
  aBin .lss x7 x6 fun v1 => F60.p3 k R0 x0 x3 x6 x7 v1 s
noncomputable abbrev F60.q4 (k : Nat) (R0 : Ar4) : Kz := fun fr s => F60.p4 k R0 (fr 0) (fr 3) (fr 6) (fr 7) s
theorem F60.e7 (k : Nat) (R0 : Ar4) : F60.X k F60.c13 (F60.q3 k R0) (F60.x0 k) = (F60.q4 k R0) := lE
theorem F60.e8 (k : Nat) (R0 : Ar4) : F60.X k F60.c6 (fun fr s => R0 (fr 0) (fr 3) (fr 6) (fr 7) s) (F60.x0 k) = (F60.q4 k R0) := seqE (F60.e6 k R0) (F60.e7 k R0)
noncomputable def F60.l0 (k : Nat) : Nat → Ar4 := iterF (fun _ _ _ _ _ => none) (fun R0 x0 x3 x6 x7 s => F60.p4 k R0 x0 x3 x6 x7 s)
theorem F60.e9 (k : Nat) : F60.X k F60.c5 (F60.q0 k) (F60.x0 k) = (fun fr s => F60.l0 k k (fr 0) (fr 3) (fr 6) (fr 7) s) := loopE (fun R0 : Ar4 => (fun fr s => R0 (fr 0) (fr 3) (fr 6) (fr 7) s)) (z := (fun _ _ _ _ _ => none)) (B := (fun R0 x0 x3 x6 x7 s => F60.p4 k R0 x0 x3 x6 x7 s)) rfl (fun R0 => F60.e8 k R0)
theorem F60.e10 (k : Nat) : F60.X k F60.c4 (F60.q0 k) xN = (fun fr s => F60.l0 k k (fr 0) (fr 3) (fr 6) (fr 7) s) := blockE (i := 0) (F60.e9 k)
noncomputable abbrev F60.c14 : Code := cL F60.c3
noncomputable def F60.p5 (k : Nat) (x0 x3 : AV) (s : Store) : Rz :=
  aLen x0 fun v1 => F60.l0 k k x0 x3 v1 (AV.int .i64 0) s
noncomputable abbrev F60.q5 (k : Nat) : Kz := fun fr s => F60.p5 k (fr 0) (fr 3) s
theorem F60.e11 (k : Nat) : F60.X k F60.c14 (fun fr s => F60.l0 k k (fr 0) (fr 3) (fr 6) (fr 7) s) xN = (F60.q5 k) := lE
theorem F60.e12 (k : Nat) : F60.X k F60.c3 (F60.q0 k) xN = (F60.q5 k) := seqE (F60.e10 k) (F60.e11 k)
theorem F60.e13 (k : Nat) : F60.X k F60.c1 (retK Try.prog F60.rs) xN = (F60.q5 k) := seqE (F60.e0 k) (F60.e12 k)
noncomputable abbrev F60.c15 : Code := cL F60.c0
noncomputable def F60.p6 (k : Nat) (x0 : AV) (s : Store) : Rz :=
  F60.p5 k x0 (AV.int .u64 0) s
noncomputable abbrev F60.q6 (k : Nat) : Kz := fun fr s => F60.p6 k (fr 0) s
theorem F60.e14 (k : Nat) : F60.X k F60.c15 (F60.q5 k) xN = (F60.q6 k) := lE
theorem F60.e15 (k : Nat) : F60.X k F60.c0 (retK Try.prog F60.rs) xN = (F60.q6 k) := seqE (F60.e13 k) (F60.e14 k)
noncomputable abbrev F60.c16 : Code := cL F60.code
noncomputable def F60.p7 (k : Nat) (x0 : AV) (s : Store) : Rz :=
  F60.p6 k x0 s
noncomputable abbrev F60.q7 (k : Nat) : Kz := fun fr s => F60.p7 k (fr 0) s
theorem F60.e16 (k : Nat) : F60.X k F60.c16 (F60.q6 k) xN = (F60.q7 k) := lE
theorem F60.e17 (k : Nat) : F60.X k F60.code (retK Try.prog F60.rs) xN = (F60.q7 k) := seqE (F60.e15 k) (F60.e16 k)
noncomputable def F60.f (k : Nat) (a0 : AV) (s : Store) : Rz := F60.p7 k a0 s
theorem F60.eq (k : Nat) (a0 : AV) (s : Store) : rn (k + 1) 60 [a0] s = F60.f k a0 s :=
  (rn_eq Try.func60 (by kernel_rfl) (by kernel_rfl) (by kernel_rfl) k s (by kernel_rfl)).trans (congrFun (congrFun (F60.e17 k) (frOf [a0])) s)

/-! unison/unisonref03.May: function 38 -/
noncomputable def F38.code : Code := bodyOf Try.f38
noncomputable def F38.rs : List ResultVar := Try.f38.results.toList
noncomputable abbrev F38.X (k : Nat) (c : Code) (n : Kz) (x : Nat → Kz) : Kz := exec Try.prog (rn k) k 25 c ⟨n, x, retK Try.prog F38.rs⟩
noncomputable def F38.p0 (k : Nat) (x0 x1 : AV) (s : Store) : Rz :=
  aCells x0 fun c1 => aNew c1 s fun v2 s3 => aFieldAddr 0 v2 fun v4 => aLoad1 v4 s3 fun v5 => aConvInt .i64 v5 fun v6 => aBin .lss v6 x1 fun v7 => (aGuard v7 true (aFieldAddr 0 v2 fun v9 => some (v9, s3)) (some (AV.tuple [], s3))).bind fun g8 => (aGuard v7 true (aLoad1 g8.1 g8.2 fun v11 => some (v11, g8.2)) (some (AV.tuple [], g8.2))).bind fun g10 => (aGuard v7 true (aBin .lss g10.1 (AV.int .u8 64) fun v13 => some (v13, g10.2)) (some (AV.tuple [], g10.2))).bind fun g12 => aPick v7 g12.1 (AV.bool false) fun v14 => (aGuard v14 true (aFieldAddr 1 v2 fun v16 => some (v16, g12.2)) (some (AV.tuple [], g12.2))).bind fun g15 => (aGuard v14 true (aLoad1 g15.1 g15.2 fun v18 => some (v18, g15.2)) (some (AV.tuple [], g15.2))).bind fun g17 => (aGuard v14 true (aBin .gtr g17.1 (AV.int .u64 0) fun v20 => some (v20, g17.2)) (some (AV.tuple [], g17.2))).bind fun g19 => aPick v14 g19.1 (AV.bool false) fun v21 => (aGuard v21 true (aFieldAddr 1 v2 fun v23 => some (v23, g19.2)) (some (AV.tuple [], g19.2))).bind fun g22 => (aGuard v21 true (aLoad1 g22.1 g22.2 fun v25 => some (v25, g22.2)) (some (AV.tuple [], g22.2))).bind fun g24 => (aGuard v21 true (aBin .leq g24.1 (AV.int .u64 4611686018427387904) fun v27 => some (v27, g24.2)) (some (AV.tuple [], g24.2))).bind fun g26 => aPick v21 g26.1 (AV.bool false) fun v28 => some (v28, g26.2)
noncomputable abbrev F38.q0 (k : Nat) : Kz := fun fr s => F38.p0 k (fr 0) (fr 1) s
theorem F38.e0 (k : Nat) : F38.X k F38.code (retK Try.prog F38.rs) xN = (F38.q0 k) := lE
noncomputable def F38.f (k : Nat) (a0 a1 : AV) (s : Store) : Rz := F38.p0 k a0 a1 s
theorem F38.eq (k : Nat) (a0 a1 : AV) (s : Store) : rn (k + 1) 38 [a0, a1] s = F38.f k a0 a1 s :=
  (rn_eq Try.func38 (by kernel_rfl) (by kernel_rfl) (by kernel_rfl) k s (by kernel_rfl)).trans (congrFun (congrFun (F38.e0 k) (frOf [a0, a1])) s)

/-! unison/unisonref03.Same: function 26 -/
noncomputable def F26.code : Code := bodyOf Try.f26
noncomputable def F26.rs : List ResultVar := Try.f26.results.toList
noncomputable abbrev F26.X (k : Nat) (c : Code) (n : Kz) (x : Nat → Kz) : Kz := exec Try.prog (rn k) k 26 c ⟨n, x, retK Try.prog F26.rs⟩
noncomputable abbrev F26.c0 : Code := cR F26.code
noncomputable abbrev F26.c1 : Code := cR F26.c0
noncomputable abbrev F26.c2 : Code := cR F26.c1
noncomputable def F26.p0 (k : Nat) (s : Store) : Rz :=
  some ((AV.bool true), s)
noncomputable abbrev F26.q0 (k : Nat) : Kz := fun fr s => F26.p0 k s
theorem F26.e0 (k : Nat) : F26.X k F26.c2 (retK Try.prog F26.rs) xN = (F26.q0 k) := lE
noncomputable abbrev F26.c3 : Code := cL F26.c1
noncomputable abbrev F26.c4 : Code := cR F26.c3
noncomputable abbrev F26.x0 (k : Nat) : Nat → Kz := xB 0 (F26.q0 k) xN
noncomputable abbrev F26.c5 : Code := cB F26.c4
noncomputable abbrev F26.c6 : Code := cB F26.c5
noncomputable abbrev F26.c7 : Code := cR F26.c6
noncomputable abbrev F26.c8 : Code := cR F26.c7
noncomputable abbrev F26.c9 : Code := cR F26.c8
noncomputable def F26.p1 (k : Nat) (R0 : Ar4) (x0 x1 x12 x13 : AV) (s : Store) : Rz :=
  aBin .add x13 (AV.int .i64 1) fun v1 => R0 x0 x1 x12 v1 s
noncomputable abbrev F26.q1 (k : Nat) (R0 : Ar4) : Kz := fun fr s => F26.p1 k R0 (fr 0) (fr 1) (fr 12) (fr 13) s
theorem F26.e1 (k : Nat) (R0 : Ar4) : F26.X k F26.c9 (fun fr s => R0 (fr 0) (fr 1) (fr 12) (fr 13) s) (F26.x0 k) = (F26.q1 k R0) := lE
noncomputable abbrev F26.c10 : Code := cL F26.c8
noncomputable abbrev F26.x1 (k : Nat) (R0 : Ar4) : Nat → Kz := xB 1 (F26.q1 k R0) (F26.x0 k)
noncomputable abbrev F26.c11 : Code := cB F26.c10
noncomputable abbrev F26.c12 : Code := cR F26.c11
noncomputable abbrev F26.c13 : Code := cR F26.c12
noncomputable def F26.p2 (k : Nat) (R0 : Ar4) (x0 x1 x12 x13 x24 : AV) (s : Store) : Rz :=
  aIf x24 (some ((AV.bool false), s)) (F26.p1 k R0 x0 x1 x12 x13 s)
noncomputable abbrev F26.q2 (k : Nat) (R0 : Ar4) : Kz := fun fr s => F26.p2 k R0 (fr 0) (fr 1) (fr 12) (fr 13) (fr 24) s
theorem F26.e2 (k : Nat) (R0 : Ar4) : F26.X k F26.c13 (F26.q1 k R0) (F26.x1 k R0) = (F26.q2 k R0) := lE
noncomputable abbrev F26.c14 : Code := cL F26.c12
noncomputable def F26.p3 (k : Nat) (R0 : Ar4) (x0 x1 x5 x12 x13 : AV) (s : Store) : Rz :=
  (some (x0, s)).bind fun q1 => (some (x5, q1.2)).bind fun q2 => (aIndexSl 3 q1.1 q2.1 fun v4 => some (v4, q2.2)).bind fun q3 => (aLoadN 3 q3.1 q3.2 fun v6 => some (v6, q3.2)).bind fun q5 => (some (x1, q5.2)).bind fun q7 => (some (x5, q7.2)).bind fun q8 => (aIndexSl 3 q7.1 q8.1 fun v10 => some (v10, q8.2)).bind fun q9 => (aLoadN 3 q9.1 q9.2 fun v12 => some (v12, q9.2)).bind fun q11 => (aEq (.struct [.int, .int, .int]) q5.1 q11.1 fun b14 => some ((AV.bool (!b14)), q11.2)).bind fun q13 => F26.p2 k R0 x0 x1 x12 x13 q13.1 q13.2
noncomputable abbrev F26.q3 (k : Nat) (R0 : Ar4) : Kz := fun fr s => F26.p3 k R0 (fr 0) (fr 1) (fr 5) (fr 12) (fr 13) s
theorem F26.e3 (k : Nat) (R0 : Ar4) : F26.X k F26.c14 (F26.q2 k R0) (F26.x1 k R0) = (F26.q3 k R0) := drawE [0, 0, 3, 7, 0, 0, 48, 112, 255]
theorem F26.e4 (k : Nat) (R0 : Ar4) : F26.X k F26.c12 (F26.q1 k R0) (F26.x1 k R0) = (F26.q3 k R0) := seqE (F26.e2 k R0) (F26.e3 k R0)
noncomputable abbrev F26.c15 : Code := cL F26.c11
noncomputable def F26.p4 (k : Nat) (R0 : Ar4) (x0 x1 x12 x13 : AV) (s : Store) : Rz :=
  F26.p3 k R0 x0 x1 x13 x12 x13 s
noncomputable abbrev F26.q4 (k : Nat) (R0 : Ar4) : Kz := fun fr s => F26.p4 k R0 (fr 0) (fr 1) (fr 12) (fr 13) s
theorem F26.e5 (k : Nat) (R0 : Ar4) : F26.X k F26.c15 (F26.q3 k R0) (F26.x1 k R0) = (F26.q4 k R0) := lE
theorem F26.e6 (k : Nat) (R0 : Ar4) : F26.X k F26.c11 (F26.q1 k R0) (F26.x1 k R0) = (F26.q4 k R0) := seqE (F26.e4 k R0) (F26.e5 k R0)
theorem F26.e7 (k : Nat) (R0 : Ar4) : F26.X k F26.c10 (F26.q1 k R0) (F26.x0 k) = (F26.q4 k R0) := blockE (i := 1) (F26.e6 k R0)
theorem F26.e8 (k : Nat) (R0 : Ar4) : F26.X k F26.c8 (fun fr s => R0 (fr 0) (fr 1) (fr 12) (fr 13) s) (F26.x0 k) = (F26.q4 k R0) := seqE (F26.e1 k R0) (F26.e7 k R0)
noncomputable abbrev F26.c16 : Code := cL F26.c7
noncomputable def F26.p5 (k : Nat) (R0 : Ar4) (x0 x1 x12 x13 x14 : AV) (s : Store) : Rz :=
  aIf x14 (F26.p4 k R0 x0 x1 x12 x13 s) (F26.p0 k s)
noncomputable abbrev F26.q5 (k : Nat) (R0 : Ar4) : Kz := fun fr s => F26.p5 k R0 (fr 0) (fr 1) (fr 12) (fr 13) (fr 14) s
theorem F26.e9 (k : Nat) (R0 : Ar4) : F26.X k F26.c16 (F26.q4 k R0) (F26.x0 k) = (F26.q5 k R0) := lE
theorem F26.e10 (k : Nat) (R0 : Ar4) : F26.X k F26.c7 (fun fr s => R0 (fr 0) (fr 1) (fr 12) (fr 13) s) (F26.x0 k) = (F26.q5 k R0) := seqE (F26.e8 k R0) (F26.e9 k R0)
noncomputable abbrev F26.c17 : Code := cL F26.c6
noncomputable def F26.p6 (k : Nat) (R0 : Ar4) (x0 x1 x12 x13 : AV) (s : Store) : Rz :=
  aBin .lss x13 x12 fun v1 => F26.p5 k R0 x0 x1 x12 x13 v1 s
noncomputable abbrev F26.q6 (k : Nat) (R0 : Ar4) : Kz := fun fr s => F26.p6 k R0 (fr 0) (fr 1) (fr 12) (fr 13) s
theorem F26.e11 (k : Nat) (R0 : Ar4) : F26.X k F26.c17 (F26.q5 k R0) (F26.x0 k) = (F26.q6 k R0) := lE
theorem F26.e12 (k : Nat) (R0 : Ar4) : F26.X k F26.c6 (fun fr s => R0 (fr 0) (fr 1) (fr 12) (fr 13) s) (F26.x0 k) = (F26.q6 k R0) := seqE (F26.e10 k R0) (F26.e11 k R0)
noncomputable def F26.l0 (k : Nat) : Nat → Ar4 := iterF (fun _ _ _ _ _ => none) (fun R0 x0 x1 x12 x13 s => F26.p6 k R0 x0 x1 x12 x13 s)
theorem F26.e13 (k : Nat) : F26.X k F26.c5 (F26.q0 k) (F26.x0 k) = (fun fr s => F26.l0 k k (fr 0) (fr 1) (fr 12) (fr 13) s) := loopE (fun R0 : Ar4 => (fun fr s => R0 (fr 0) (fr 1) (fr 12) (fr 13) s)) (z := (fun _ _ _ _ _ => none)) (B := (fun R0 x0 x1 x12 x13 s => F26.p6 k R0 x0 x1 x12 x13 s)) rfl (fun R0 => F26.e12 k R0)
theorem F26.e14 (k : Nat) : F26.X k F26.c4 (F26.q0 k) xN = (fun fr s => F26.l0 k k (fr 0) (fr 1) (fr 12) (fr 13) s) := blockE (i := 0) (F26.e13 k)
noncomputable abbrev F26.c18 : Code := cL F26.c3
noncomputable def F26.p7 (k : Nat) (x0 x1 : AV) (s : Store) : Rz :=
  aLen x0 fun v1 => F26.l0 k k x0 x1 v1 (AV.int .i64 0) s
noncomputable abbrev F26.q7 (k : Nat) : Kz := fun fr s => F26.p7 k (fr 0) (fr 1) s
theorem F26.e15 (k : Nat) : F26.X k F26.c18 (fun fr s => F26.l0 k k (fr 0) (fr 1) (fr 12) (fr 13) s) xN = (F26.q7 k) := lE
theorem F26.e16 (k : Nat) : F26.X k F26.c3 (F26.q0 k) xN = (F26.q7 k) := seqE (F26.e14 k) (F26.e15 k)
theorem F26.e17 (k : Nat) : F26.X k F26.c1 (retK Try.prog F26.rs) xN = (F26.q7 k) := seqE (F26.e0 k) (F26.e16 k)
noncomputable abbrev F26.c19 : Code := cL F26.c0
noncomputable def F26.p8 (k : Nat) (x0 x1 : AV) (s : Store) : Rz :=
  aLen x0 fun v1 => aLen x1 fun v2 => aBin .neq v1 v2 fun v3 => aIf v3 (some ((AV.bool false), s)) (F26.p7 k x0 x1 s)
noncomputable abbrev F26.q8 (k : Nat) : Kz := fun fr s => F26.p8 k (fr 0) (fr 1) s
theorem F26.e18 (k : Nat) : F26.X k F26.c19 (F26.q7 k) xN = (F26.q8 k) := lE
theorem F26.e19 (k : Nat) : F26.X k F26.c0 (retK Try.prog F26.rs) xN = (F26.q8 k) := seqE (F26.e17 k) (F26.e18 k)
noncomputable abbrev F26.c20 : Code := cL F26.code
noncomputable def F26.p9 (k : Nat) (x0 x1 : AV) (s : Store) : Rz :=
  F26.p8 k x0 x1 s
noncomputable abbrev F26.q9 (k : Nat) : Kz := fun fr s => F26.p9 k (fr 0) (fr 1) s
theorem F26.e20 (k : Nat) : F26.X k F26.c20 (F26.q8 k) xN = (F26.q9 k) := lE
theorem F26.e21 (k : Nat) : F26.X k F26.code (retK Try.prog F26.rs) xN = (F26.q9 k) := seqE (F26.e19 k) (F26.e20 k)
noncomputable def F26.f (k : Nat) (a0 a1 : AV) (s : Store) : Rz := F26.p9 k a0 a1 s
theorem F26.eq (k : Nat) (a0 a1 : AV) (s : Store) : rn (k + 1) 26 [a0, a1] s = F26.f k a0 a1 s :=
  (rn_eq Try.func26 (by kernel_rfl) (by kernel_rfl) (by kernel_rfl) k s (by kernel_rfl)).trans (congrFun (congrFun (F26.e21 k) (frOf [a0, a1])) s)

/-! unison/unisonref02.Sum: function 28 -/
/-! unison/unisonref02.Mark: function 11 -/
/-! unison/unisonref02.Fits: function 21 -/
/-! unison/unisonref01.Num: function 29 -/
noncomputable def F29.code : Code := bodyOf Try.f29
noncomputable def F29.rs : List ResultVar := Try.f29.results.toList
noncomputable abbrev F29.X (k : Nat) (c : Code) (n : Kz) (x : Nat → Kz) : Kz := exec Try.prog (rn k) k 21 c ⟨n, x, retK Try.prog F29.rs⟩
noncomputable abbrev F29.c0 : Code := cR F29.code
noncomputable abbrev F29.c1 : Code := cR F29.c0
noncomputable abbrev F29.c2 : Code := cR F29.c1
noncomputable def F29.p0 (k : Nat) (x3 : AV) (s : Store) : Rz :=
  aLen x3 fun v1 => aConvInt .u8 v1 fun v2 => aBuild [(0, 1, v2)] [AV.int .u8 0] fun c3 => aAppend 1 1 (AV.sl s.next 0 1 1 1) x3 (s.push (.cells c3 false)) fun v4 s5 => some (v4, s5)
noncomputable abbrev F29.q0 (k : Nat) : Kz := fun fr s => F29.p0 k (fr 3) s
theorem F29.e0 (k : Nat) : F29.X k F29.c2 (retK Try.prog F29.rs) xN = (F29.q0 k) := lE
noncomputable abbrev F29.c3 : Code := cL F29.c1
noncomputable abbrev F29.x0 (k : Nat) : Nat → Kz := xB 0 (F29.q0 k) xN
noncomputable abbrev F29.c4 : Code := cB F29.c3
noncomputable abbrev F29.c5 : Code := cB F29.c4
noncomputable abbrev F29.c6 : Code := cR F29.c5
noncomputable abbrev F29.x1 (k : Nat) (R0 : Ar2) : Nat → Kz := xB 1 (fun fr s => R0 (fr 0) (fr 3) s) (F29.x0 k)
noncomputable abbrev F29.c7 : Code := cB F29.c6
noncomputable def F29.p1 (k : Nat) (R0 : Ar2) (x0 x3 : AV) (s : Store) : Rz :=
  aBin .rem x0 (AV.int .u64 256) fun v1 => aConvInt .u8 v1 fun v2 => aBuild [(0, 1, v2)] [AV.int .u8 0] fun c3 => aAppend 1 1 x3 (AV.sl s.next 0 1 1 1) (s.push (.cells c3 false)) fun v4 s5 => aBin .quo x0 (AV.int .u64 256) fun v6 => R0 v6 v4 s5
noncomputable abbrev F29.q1 (k : Nat) (R0 : Ar2) : Kz := fun fr s => F29.p1 k R0 (fr 0) (fr 3) s
theorem F29.e1 (k : Nat) (R0 : Ar2) : F29.X k F29.c7 (fun fr s => R0 (fr 0) (fr 3) s) (F29.x1 k R0) = (F29.q1 k R0) := lE
theorem F29.e2 (k : Nat) (R0 : Ar2) : F29.X k F29.c6 (fun fr s => R0 (fr 0) (fr 3) s) (F29.x0 k) = (F29.q1 k R0) := blockE (i := 1) (F29.e1 k R0)
noncomputable abbrev F29.c8 : Code := cL F29.c5
noncomputable def F29.p2 (k : Nat) (R0 : Ar2) (x0 x3 : AV) (s : Store) : Rz :=
  aBin .gtr x0 (AV.int .u64 0) fun v1 => aIf v1 (F29.p1 k R0 x0 x3 s) (F29.p0 k x3 s)
noncomputable abbrev F29.q2 (k : Nat) (R0 : Ar2) : Kz := fun fr s => F29.p2 k R0 (fr 0) (fr 3) s
theorem F29.e3 (k : Nat) (R0 : Ar2) : F29.X k F29.c8 (F29.q1 k R0) (F29.x0 k) = (F29.q2 k R0) := lE
theorem F29.e4 (k : Nat) (R0 : Ar2) : F29.X k F29.c5 (fun fr s => R0 (fr 0) (fr 3) s) (F29.x0 k) = (F29.q2 k R0) := seqE (F29.e2 k R0) (F29.e3 k R0)
noncomputable def F29.l0 (k : Nat) : Nat → Ar2 := iterF (fun _ _ _ => none) (fun R0 x0 x3 s => F29.p2 k R0 x0 x3 s)
theorem F29.e5 (k : Nat) : F29.X k F29.c4 (F29.q0 k) (F29.x0 k) = (fun fr s => F29.l0 k k (fr 0) (fr 3) s) := loopE (fun R0 : Ar2 => (fun fr s => R0 (fr 0) (fr 3) s)) (z := (fun _ _ _ => none)) (B := (fun R0 x0 x3 s => F29.p2 k R0 x0 x3 s)) rfl (fun R0 => F29.e4 k R0)
theorem F29.e6 (k : Nat) : F29.X k F29.c3 (F29.q0 k) xN = (fun fr s => F29.l0 k k (fr 0) (fr 3) s) := blockE (i := 0) (F29.e5 k)
theorem F29.e7 (k : Nat) : F29.X k F29.c1 (retK Try.prog F29.rs) xN = (fun fr s => F29.l0 k k (fr 0) (fr 3) s) := seqE (F29.e0 k) (F29.e6 k)
noncomputable abbrev F29.c9 : Code := cL F29.c0
noncomputable def F29.p3 (k : Nat) (x0 : AV) (s : Store) : Rz :=
  aBuild [] [] fun c1 => F29.l0 k k x0 (AV.sl s.next 0 0 1 0) (s.push (.cells c1 false))
noncomputable abbrev F29.q3 (k : Nat) : Kz := fun fr s => F29.p3 k (fr 0) s
theorem F29.e8 (k : Nat) : F29.X k F29.c9 (fun fr s => F29.l0 k k (fr 0) (fr 3) s) xN = (F29.q3 k) := lE
theorem F29.e9 (k : Nat) : F29.X k F29.c0 (retK Try.prog F29.rs) xN = (F29.q3 k) := seqE (F29.e7 k) (F29.e8 k)
noncomputable abbrev F29.c10 : Code := cL F29.code
noncomputable def F29.p4 (k : Nat) (x0 : AV) (s : Store) : Rz :=
  F29.p3 k x0 s
noncomputable abbrev F29.q4 (k : Nat) : Kz := fun fr s => F29.p4 k (fr 0) s
theorem F29.e10 (k : Nat) : F29.X k F29.c10 (F29.q3 k) xN = (F29.q4 k) := lE
theorem F29.e11 (k : Nat) : F29.X k F29.code (retK Try.prog F29.rs) xN = (F29.q4 k) := seqE (F29.e9 k) (F29.e10 k)
noncomputable def F29.f (k : Nat) (a0 : AV) (s : Store) : Rz := F29.p4 k a0 s
theorem F29.eq (k : Nat) (a0 : AV) (s : Store) : rn (k + 1) 29 [a0] s = F29.f k a0 s :=
  (rn_eq Try.func29 (by kernel_rfl) (by kernel_rfl) (by kernel_rfl) k s (by kernel_rfl)).trans (congrFun (congrFun (F29.e11 k) (frOf [a0])) s)

/-! (unison/unisonref01.R).Num: function 22 -/
/-! (unison/unisonref01.R).Row: function 52 -/
/-! (unison/unisonref01.R).End: function 25 -/
end Go.Proofs.Ytkfdgegmahbkiaa.Sim
