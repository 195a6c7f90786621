/- What the translated functions' runs on the abstract machine come to, by the session's program. No condition. -/
import Derived.Test.YtkfdgegmahbkiaaProg
import Derived.Test.YtkfdgegmahbkiaaSimR
import Derived.Test.YtkfdgegmahbkiaaSpRn
import Derived.Test.YtkfdgegmahbkiaaFunB
import Derived.KernelRfl
namespace Go.Proofs.Ytkfdgegmahbkiaa.Sim
set_option linter.unusedVariables false
set_option maxRecDepth 100000
/-! unison/unisonlaw06.WireTurned: function 6 -/
noncomputable def F6.code : Code := bodyOf Try.f6
noncomputable def F6.rs : List ResultVar := Try.f6.results.toList
noncomputable abbrev F6.X (k : Nat) (c : Code) (n : Kz) (x : Nat → Kz) : Kz := exec Try.prog (rn k) k 88 c ⟨n, x, retK Try.prog F6.rs⟩
noncomputable abbrev F6.c0 : Code := cR F6.code
noncomputable abbrev F6.c1 : Code := cR F6.c0
noncomputable abbrev F6.c2 : Code := cR F6.c1
noncomputable abbrev F6.c3 : Code := cR F6.c2
noncomputable abbrev F6.c4 : Code := cR F6.c3
noncomputable abbrev F6.c5 : Code := cR F6.c4
noncomputable def F6.p0 (k : Nat) (x7 : AV) (s : Store) : Rz :=
  (rn k 8 [x7] s).bind fun q1 => aExtract 0 q1.1 fun v2 => aExtract 1 q1.1 fun v3 => aNew [AV.int .u8 0, AV.int .u8 0, AV.int .u8 0, AV.int .u8 0, AV.int .u64 0, AV.int .u64 0, AV.int .u32 0, AV.int .u32 0, AV.int .u32 0, AV.int .u64 0, AV.int .u64 0, AV.nilsl, AV.nilsl, AV.nilsl, AV.nilsl, AV.nilsl] q1.2 fun v4 s5 => aStore 16 v4 v2 s5 fun s6 => aBin .eql v3 (AV.int .i64 5) fun v7 => (aGuard v7 true (aLoadN 16 v4 s6 fun v9 => some (v9, s6)) (some (AV.tuple [], s6))).bind fun g8 => (aGuard v7 true (aBuild [] [AV.int .u8 0, AV.int .u8 0, AV.int .u8 0, AV.int .u8 0, AV.int .u64 0, AV.int .u64 0, AV.int .u32 0, AV.int .u32 0, AV.int .u32 0, AV.int .u64 0, AV.int .u64 0, AV.nilsl, AV.nilsl, AV.nilsl, AV.nilsl, AV.nilsl] fun c11 => some ((AV.agg c11), g8.2)) (some (AV.tuple [], g8.2))).bind fun g10 => (aGuard v7 true ((rn k 10 [g8.1, g10.1] g10.2).bind fun q13 => some (q13.1, q13.2)) (some (AV.tuple [], g10.2))).bind fun g12 => aPick v7 g12.1 (AV.bool false) fun v14 => (aGuard v14 true ((rn k 7 [] g12.2).bind fun q16 => some (q16.1, q16.2)) (some (AV.tuple [], g12.2))).bind fun g15 => aPick v14 g15.1 (AV.bool false) fun v17 => some (v17, g15.2)
noncomputable abbrev F6.q0 (k : Nat) : Kz := fun fr s => F6.p0 k (fr 7) s
theorem F6.e0 (k : Nat) : F6.X k F6.c5 (retK Try.prog F6.rs) xN = (F6.q0 k) := lE
noncomputable abbrev F6.c6 : Code := cL F6.c4
noncomputable abbrev F6.c7 : Code := cR F6.c6
noncomputable abbrev F6.x0 (k : Nat) : Nat → Kz := xB 0 (F6.q0 k) xN
noncomputable abbrev F6.c8 : Code := cB F6.c7
noncomputable abbrev F6.c9 : Code := cB F6.c8
noncomputable abbrev F6.c10 : Code := cR F6.c9
noncomputable abbrev F6.c11 : Code := cR F6.c10
noncomputable def F6.p1 (k : Nat) (R0 : Ar4) (x1 x2 x7 x9 : AV) (s : Store) : Rz :=
  aBin .add x9 (AV.int .i64 1) fun v1 => R0 x1 x2 x7 v1 s
noncomputable abbrev F6.q1 (k : Nat) (R0 : Ar4) : Kz := fun fr s => F6.p1 k R0 (fr 1) (fr 2) (fr 7) (fr 9) s
theorem F6.e1 (k : Nat) (R0 : Ar4) : F6.X k F6.c11 (fun fr s => R0 (fr 1) (fr 2) (fr 7) (fr 9) s) (F6.x0 k) = (F6.q1 k R0) := lE
noncomputable abbrev F6.c12 : Code := cL F6.c10
noncomputable abbrev F6.x1 (k : Nat) (R0 : Ar4) : Nat → Kz := xB 1 (F6.q1 k R0) (F6.x0 k)
noncomputable abbrev F6.c13 : Code := cB F6.c12
noncomputable abbrev F6.c14 : Code := cR F6.c13
noncomputable abbrev F6.c15 : Code := cT F6.c14
noncomputable abbrev F6.c16 : Code := cR F6.c15
noncomputable def F6.p2 (k : Nat) (R0 : Ar4) (x1 x2 x7 x9 x10 : AV) (s : Store) : Rz :=
  (some (x7, s)).bind fun q1 => (some (x10, q1.2)).bind fun q2 => (aBin .quo q2.1 (AV.int .i64 8) fun v4 => some (v4, q2.2)).bind fun q3 => (some (x7, q3.2)).bind fun q5 => (some (x10, q5.2)).bind fun q6 => (aBin .quo q6.1 (AV.int .i64 8) fun v8 => some (v8, q6.2)).bind fun q7 => (aIndexSl 1 q5.1 q7.1 fun v10 => some (v10, q7.2)).bind fun q9 => (aLoad1 q9.1 q9.2 fun v12 => some (v12, q9.2)).bind fun q11 => (some (x10, q11.2)).bind fun q13 => (aBin .rem q13.1 (AV.int .i64 8) fun v15 => some (v15, q13.2)).bind fun q14 => (aShift .shl (AV.int .u8 1) q14.1 fun v17 => some (v17, q14.2)).bind fun q16 => (aBin .xor q11.1 q16.1 fun v19 => some (v19, q16.2)).bind fun q18 => (aIndexSl 1 q1.1 q3.1 fun v21 => some (v21, q18.2)).bind fun q20 => (aStore 1 q20.1 q18.1 q20.2 fun s23 => some ((AV.tuple []), s23)).bind fun q22 => F6.p1 k R0 x1 x2 x7 x9 q22.2
noncomputable abbrev F6.q2 (k : Nat) (R0 : Ar4) : Kz := fun fr s => F6.p2 k R0 (fr 1) (fr 2) (fr 7) (fr 9) (fr 10) s
theorem F6.e2 (k : Nat) (R0 : Ar4) : F6.X k F6.c16 (F6.q1 k R0) (F6.x1 k R0) = (F6.q2 k R0) := drawE [0, 0, 2, 0, 0, 16, 56, 120, 0, 256, 768, 2040, 4095, 8191]
noncomputable abbrev F6.c17 : Code := cL F6.c15
noncomputable def F6.p3 (k : Nat) (R0 : Ar4) (x1 x2 x7 x9 : AV) (s : Store) : Rz :=
  aBin .add x1 x9 fun v1 => F6.p2 k R0 x1 x2 x7 x9 v1 s
noncomputable abbrev F6.q3 (k : Nat) (R0 : Ar4) : Kz := fun fr s => F6.p3 k R0 (fr 1) (fr 2) (fr 7) (fr 9) s
theorem F6.e3 (k : Nat) (R0 : Ar4) : F6.X k F6.c17 (F6.q2 k R0) (F6.x1 k R0) = (F6.q3 k R0) := lE
theorem F6.e4 (k : Nat) (R0 : Ar4) : F6.X k F6.c15 (F6.q1 k R0) (F6.x1 k R0) = (F6.q3 k R0) := seqE (F6.e2 k R0) (F6.e3 k R0)
noncomputable abbrev F6.c18 : Code := cE F6.c14
noncomputable def F6.p4 (k : Nat) (R0 : Ar4) (x1 x2 x7 x9 : AV) (s : Store) : Rz :=
  F6.p1 k R0 x1 x2 x7 x9 s
noncomputable abbrev F6.q4 (k : Nat) (R0 : Ar4) : Kz := fun fr s => F6.p4 k R0 (fr 1) (fr 2) (fr 7) (fr 9) s
theorem F6.e5 (k : Nat) (R0 : Ar4) : F6.X k F6.c18 (F6.q1 k R0) (F6.x1 k R0) = (F6.q4 k R0) := lE
noncomputable def F6.p5 (k : Nat) (R0 : Ar4) (x1 x2 x7 x9 x56 : AV) (s : Store) : Rz :=
  aIf x56 (F6.p3 k R0 x1 x2 x7 x9 s) (F6.p4 k R0 x1 x2 x7 x9 s)
noncomputable abbrev F6.q5 (k : Nat) (R0 : Ar4) : Kz := fun fr s => F6.p5 k R0 (fr 1) (fr 2) (fr 7) (fr 9) (fr 56) s
theorem F6.e6 (k : Nat) (R0 : Ar4) : F6.X k F6.c14 (F6.q1 k R0) (F6.x1 k R0) = (F6.q5 k R0) := condE (F6.e4 k R0) (F6.e5 k R0)
noncomputable abbrev F6.c19 : Code := cL F6.c13
noncomputable def F6.p6 (k : Nat) (R0 : Ar4) (x1 x2 x7 x9 : AV) (s : Store) : Rz :=
  aShift .shr x2 x9 fun v1 => aBin .rem v1 (AV.int .u32 2) fun v2 => aBin .eql v2 (AV.int .u32 1) fun v3 => F6.p5 k R0 x1 x2 x7 x9 v3 s
noncomputable abbrev F6.q6 (k : Nat) (R0 : Ar4) : Kz := fun fr s => F6.p6 k R0 (fr 1) (fr 2) (fr 7) (fr 9) s
theorem F6.e7 (k : Nat) (R0 : Ar4) : F6.X k F6.c19 (F6.q5 k R0) (F6.x1 k R0) = (F6.q6 k R0) := lE
theorem F6.e8 (k : Nat) (R0 : Ar4) : F6.X k F6.c13 (F6.q1 k R0) (F6.x1 k R0) = (F6.q6 k R0) := seqE (F6.e6 k R0) (F6.e7 k R0)
theorem F6.e9 (k : Nat) (R0 : Ar4) : F6.X k F6.c12 (F6.q1 k R0) (F6.x0 k) = (F6.q6 k R0) := blockE (i := 1) (F6.e8 k R0)
theorem F6.e10 (k : Nat) (R0 : Ar4) : F6.X k F6.c10 (fun fr s => R0 (fr 1) (fr 2) (fr 7) (fr 9) s) (F6.x0 k) = (F6.q6 k R0) := seqE (F6.e1 k R0) (F6.e9 k R0)
noncomputable abbrev F6.c20 : Code := cL F6.c9
noncomputable def F6.p7 (k : Nat) (R0 : Ar4) (x1 x2 x7 x9 : AV) (s : Store) : Rz :=
  aBin .lss x9 (AV.int .i64 32) fun v1 => aIf v1 (F6.p6 k R0 x1 x2 x7 x9 s) (F6.p0 k x7 s)
noncomputable abbrev F6.q7 (k : Nat) (R0 : Ar4) : Kz := fun fr s => F6.p7 k R0 (fr 1) (fr 2) (fr 7) (fr 9) s
theorem F6.e11 (k : Nat) (R0 : Ar4) : F6.X k F6.c20 (F6.q6 k R0) (F6.x0 k) = (F6.q7 k R0) := lE
theorem F6.e12 (k : Nat) (R0 : Ar4) : F6.X k F6.c9 (fun fr s => R0 (fr 1) (fr 2) (fr 7) (fr 9) s) (F6.x0 k) = (F6.q7 k R0) := seqE (F6.e10 k R0) (F6.e11 k R0)
noncomputable def F6.l0 (k : Nat) : Nat → Ar4 := iterF (fun _ _ _ _ _ => none) (fun R0 x1 x2 x7 x9 s => F6.p7 k R0 x1 x2 x7 x9 s)
theorem F6.e13 (k : Nat) : F6.X k F6.c8 (F6.q0 k) (F6.x0 k) = (fun fr s => F6.l0 k k (fr 1) (fr 2) (fr 7) (fr 9) s) := loopE (fun R0 : Ar4 => (fun fr s => R0 (fr 1) (fr 2) (fr 7) (fr 9) s)) (z := (fun _ _ _ _ _ => none)) (B := (fun R0 x1 x2 x7 x9 s => F6.p7 k R0 x1 x2 x7 x9 s)) rfl (fun R0 => F6.e12 k R0)
theorem F6.e14 (k : Nat) : F6.X k F6.c7 (F6.q0 k) xN = (fun fr s => F6.l0 k k (fr 1) (fr 2) (fr 7) (fr 9) s) := blockE (i := 0) (F6.e13 k)
noncomputable abbrev F6.c21 : Code := cL F6.c6
noncomputable def F6.p8 (k : Nat) (x1 x2 x7 : AV) (s : Store) : Rz :=
  F6.l0 k k x1 x2 x7 (AV.int .i64 0) s
noncomputable abbrev F6.q8 (k : Nat) : Kz := fun fr s => F6.p8 k (fr 1) (fr 2) (fr 7) s
theorem F6.e15 (k : Nat) : F6.X k F6.c21 (fun fr s => F6.l0 k k (fr 1) (fr 2) (fr 7) (fr 9) s) xN = (F6.q8 k) := lE
theorem F6.e16 (k : Nat) : F6.X k F6.c6 (F6.q0 k) xN = (F6.q8 k) := seqE (F6.e14 k) (F6.e15 k)
theorem F6.e17 (k : Nat) : F6.X k F6.c4 (retK Try.prog F6.rs) xN = (F6.q8 k) := seqE (F6.e0 k) (F6.e16 k)
noncomputable abbrev F6.c22 : Code := cL F6.c3
noncomputable def F6.p9 (k : Nat) (x1 x2 x7 : AV) (s : Store) : Rz :=
  aBin .lss x1 (AV.int .i64 0) fun v1 => (aGuard v1 false (some (x1, s)) (some (AV.tuple [], s))).bind fun g2 => (aGuard v1 false (some (x7, g2.2)) (some (AV.tuple [], g2.2))).bind fun g3 => (aGuard v1 false (aLen g3.1 fun v5 => some (v5, g3.2)) (some (AV.tuple [], g3.2))).bind fun g4 => (aGuard v1 false (aBin .mul (AV.int .i64 8) g4.1 fun v7 => some (v7, g4.2)) (some (AV.tuple [], g4.2))).bind fun g6 => (aGuard v1 false (aBin .sub g6.1 (AV.int .i64 32) fun v9 => some (v9, g6.2)) (some (AV.tuple [], g6.2))).bind fun g8 => (aGuard v1 false (aBin .gtr g2.1 g8.1 fun v11 => some (v11, g8.2)) (some (AV.tuple [], g8.2))).bind fun g10 => aPick v1 (AV.bool true) g10.1 fun v12 => aIf v12 ((rn k 7 [] g10.2).bind fun q13 => some (q13.1, q13.2)) (F6.p8 k x1 x2 x7 g10.2)
noncomputable abbrev F6.q9 (k : Nat) : Kz := fun fr s => F6.p9 k (fr 1) (fr 2) (fr 7) s
theorem F6.e18 (k : Nat) : F6.X k F6.c22 (F6.q8 k) xN = (F6.q9 k) := lE
theorem F6.e19 (k : Nat) : F6.X k F6.c3 (retK Try.prog F6.rs) xN = (F6.q9 k) := seqE (F6.e17 k) (F6.e18 k)
noncomputable abbrev F6.c23 : Code := cL F6.c2
noncomputable def F6.p10 (k : Nat) (x1 x2 x7 x8 : AV) (s : Store) : Rz :=
  aBin .neq x8 (AV.int .i64 0) fun v1 => (aGuard v1 false (some (x7, s)) (some (AV.tuple [], s))).bind fun g2 => (aGuard v1 false (aLen g2.1 fun v4 => some (v4, g2.2)) (some (AV.tuple [], g2.2))).bind fun g3 => (aGuard v1 false (aBin .lss g3.1 (AV.int .i64 11) fun v6 => some (v6, g3.2)) (some (AV.tuple [], g3.2))).bind fun g5 => aPick v1 (AV.bool true) g5.1 fun v7 => aIf v7 (some ((AV.bool false), g5.2)) (F6.p9 k x1 x2 x7 g5.2)
noncomputable abbrev F6.q10 (k : Nat) : Kz := fun fr s => F6.p10 k (fr 1) (fr 2) (fr 7) (fr 8) s
theorem F6.e20 (k : Nat) : F6.X k F6.c23 (F6.q9 k) xN = (F6.q10 k) := lE
theorem F6.e21 (k : Nat) : F6.X k F6.c2 (retK Try.prog F6.rs) xN = (F6.q10 k) := seqE (F6.e19 k) (F6.e20 k)
noncomputable abbrev F6.c24 : Code := cL F6.c1
noncomputable def F6.p11 (k : Nat) (x1 x2 x3 : AV) (s : Store) : Rz :=
  aLoadN 16 x3 s fun v1 => (rn k 13 [v1] s).bind fun q2 => aExtract 0 q2.1 fun v3 => aExtract 1 q2.1 fun v4 => F6.p10 k x1 x2 v3 v4 q2.2
noncomputable abbrev F6.q11 (k : Nat) : Kz := fun fr s => F6.p11 k (fr 1) (fr 2) (fr 3) s
theorem F6.e22 (k : Nat) : F6.X k F6.c24 (F6.q10 k) xN = (F6.q11 k) := lE
theorem F6.e23 (k : Nat) : F6.X k F6.c1 (retK Try.prog F6.rs) xN = (F6.q11 k) := seqE (F6.e21 k) (F6.e22 k)
noncomputable abbrev F6.c25 : Code := cL F6.c0
noncomputable def F6.p12 (k : Nat) (x1 x2 x3 : AV) (s : Store) : Rz :=
  aLoadN 16 x3 s fun v1 => (rn k 15 [v1] s).bind fun q2 => (aGuard q2.1 false (aLoadN 16 x3 q2.2 fun v4 => some (v4, q2.2)) (some (AV.tuple [], q2.2))).bind fun g3 => (aGuard q2.1 false ((rn k 16 [g3.1] g3.2).bind fun q6 => some (q6.1, q6.2)) (some (AV.tuple [], g3.2))).bind fun g5 => (aGuard q2.1 false (aUn .not g5.1 fun v8 => some (v8, g5.2)) (some (AV.tuple [], g5.2))).bind fun g7 => aPick q2.1 (AV.bool true) g7.1 fun v9 => (aGuard v9 false (some (x2, g7.2)) (some (AV.tuple [], g7.2))).bind fun g10 => (aGuard v9 false (aBin .eql g10.1 (AV.int .u32 0) fun v12 => some (v12, g10.2)) (some (AV.tuple [], g10.2))).bind fun g11 => aPick v9 (AV.bool true) g11.1 fun v13 => aIf v13 ((rn k 7 [] g11.2).bind fun q14 => some (q14.1, q14.2)) (F6.p11 k x1 x2 x3 g11.2)
noncomputable abbrev F6.q12 (k : Nat) : Kz := fun fr s => F6.p12 k (fr 1) (fr 2) (fr 3) s
theorem F6.e24 (k : Nat) : F6.X k F6.c25 (F6.q11 k) xN = (F6.q12 k) := lE
theorem F6.e25 (k : Nat) : F6.X k F6.c0 (retK Try.prog F6.rs) xN = (F6.q12 k) := seqE (F6.e23 k) (F6.e24 k)
noncomputable abbrev F6.c26 : Code := cL F6.code
noncomputable def F6.p13 (k : Nat) (x0 x1 x2 : AV) (s : Store) : Rz :=
  aCells x0 fun c1 => aNew c1 s fun v2 s3 => F6.p12 k x1 x2 v2 s3
noncomputable abbrev F6.q13 (k : Nat) : Kz := fun fr s => F6.p13 k (fr 0) (fr 1) (fr 2) s
theorem F6.e26 (k : Nat) : F6.X k F6.c26 (F6.q12 k) xN = (F6.q13 k) := lE
theorem F6.e27 (k : Nat) : F6.X k F6.code (retK Try.prog F6.rs) xN = (F6.q13 k) := seqE (F6.e25 k) (F6.e26 k)
noncomputable def F6.f (k : Nat) (a0 a1 a2 : AV) (s : Store) : Rz := F6.p13 k a0 a1 a2 s
theorem F6.eq (k : Nat) (a0 a1 a2 : AV) (s : Store) : rn (k + 1) 6 [a0, a1, a2] s = F6.f k a0 a1 a2 s :=
  (rn_eq Try.func6 (by kernel_rfl) (by kernel_rfl) (by kernel_rfl) k s (by kernel_rfl)).trans (congrFun (congrFun (F6.e27 k) (frOf [a0, a1, a2])) s)
end Go.Proofs.Ytkfdgegmahbkiaa.Sim
