/- What the translated functions' runs on the abstract machine come to, by the session's program. No condition. -/
import Derived.Test.YtkfdgegmahbkiaaProg
import Derived.Test.YtkfdgegmahbkiaaSimR
import Derived.Test.YtkfdgegmahbkiaaSpRn
import Derived.Test.YtkfdgegmahbkiaaFunA
import Derived.KernelRfl
namespace Go.Proofs.Ytkfdgegmahbkiaa.Sim
set_option linter.unusedVariables false
set_option maxRecDepth 100000
/-! unison/wire.id: function 47 -/
noncomputable def F47.code : Code := bodyOf Try.f47
noncomputable def F47.rs : List ResultVar := Try.f47.results.toList
noncomputable abbrev F47.X (k : Nat) (c : Code) (n : Kz) (x : Nat → Kz) : Kz := exec Try.prog (rn k) k 20 c ⟨n, x, retK Try.prog F47.rs⟩
noncomputable abbrev F47.c0 : Code := cR F47.code
noncomputable def F47.p0 (k : Nat) (x0 x1 : AV) (s : Store) : Rz :=
  (some (x0, s)).bind fun q1 => (some (x1, q1.2)).bind fun q2 => (aNilCheck q2.1 fun v4 => some (v4, q2.2)).bind fun q3 => (aFieldAddr 1 q3.1 fun v6 => some (v6, q3.2)).bind fun q5 => (some ((AV.meth "unison/wire.num" q1.1), q5.2)).bind fun q7 => (aNilCheck q7.1 fun v9 => some (v9, q7.2)).bind fun q8 => (some (q1.1, q8.2)).bind fun q10 => (aInvoke Try.prog (rn k) q10.1 "unison/wire.num" [q5.1] q10.2 fun v12 s13 => some (v12, s13)).bind fun q11 => some (AV.tuple [], q11.2)
noncomputable abbrev F47.q0 (k : Nat) : Kz := fun fr s => F47.p0 k (fr 0) (fr 1) s
theorem F47.e0 (k : Nat) : F47.X k F47.c0 (retK Try.prog F47.rs) xN = (F47.q0 k) := drawE [0, 0, 2, 6, 1, 17, 49, 127]
noncomputable abbrev F47.c1 : Code := cL F47.code
noncomputable def F47.p1 (k : Nat) (x0 x1 : AV) (s : Store) : Rz :=
  (some (x0, s)).bind fun q1 => (some (x1, q1.2)).bind fun q2 => (aNilCheck q2.1 fun v4 => some (v4, q2.2)).bind fun q3 => (aFieldAddr 0 q3.1 fun v6 => some (v6, q3.2)).bind fun q5 => (some ((AV.meth "unison/wire.who" q1.1), q5.2)).bind fun q7 => (aNilCheck q7.1 fun v9 => some (v9, q7.2)).bind fun q8 => (some (q1.1, q8.2)).bind fun q10 => (aInvoke Try.prog (rn k) q10.1 "unison/wire.who" [q5.1] q10.2 fun v12 s13 => some (v12, s13)).bind fun q11 => F47.p0 k x0 x1 q11.2
noncomputable abbrev F47.q1 (k : Nat) : Kz := fun fr s => F47.p1 k (fr 0) (fr 1) s
theorem F47.e1 (k : Nat) : F47.X k F47.c1 (F47.q0 k) xN = (F47.q1 k) := drawE [0, 0, 2, 6, 1, 17, 49, 127]
theorem F47.e2 (k : Nat) : F47.X k F47.code (retK Try.prog F47.rs) xN = (F47.q1 k) := seqE (F47.e0 k) (F47.e1 k)
noncomputable def F47.f (k : Nat) (a0 a1 : AV) (s : Store) : Rz := F47.p1 k a0 a1 s
theorem F47.eq (k : Nat) (a0 a1 : AV) (s : Store) : rn (k + 1) 47 [a0, a1] s = F47.f k a0 a1 s :=
  (rn_eq Try.func47 (by kernel_rfl) (by kernel_rfl) (by kernel_rfl) k s (by kernel_rfl)).trans (congrFun (congrFun (F47.e2 k) (frOf [a0, a1])) s)

/-! unison/wire.piece: function 46 -/
noncomputable def F46.code : Code := bodyOf Try.f46
noncomputable def F46.rs : List ResultVar := Try.f46.results.toList
noncomputable abbrev F46.X (k : Nat) (c : Code) (n : Kz) (x : Nat → Kz) : Kz := exec Try.prog (rn k) k 41 c ⟨n, x, retK Try.prog F46.rs⟩
noncomputable abbrev F46.c0 : Code := cR F46.code
noncomputable abbrev F46.c1 : Code := cR F46.c0
noncomputable abbrev F46.c2 : Code := cR F46.c1
noncomputable abbrev F46.c3 : Code := cR F46.c2
noncomputable def F46.p0 (k : Nat) (x0 x1 : AV) (s : Store) : Rz :=
  (some (x0, s)).bind fun q1 => (some (x1, q1.2)).bind fun q2 => (aNilCheck q2.1 fun v4 => some (v4, q2.2)).bind fun q3 => (aFieldAddr 15 q3.1 fun v6 => some (v6, q3.2)).bind fun q5 => (some ((AV.meth "unison/wire.data" q1.1), q5.2)).bind fun q7 => (aNilCheck q7.1 fun v9 => some (v9, q7.2)).bind fun q8 => (some (q1.1, q8.2)).bind fun q10 => (aInvoke Try.prog (rn k) q10.1 "unison/wire.data" [q5.1] q10.2 fun v12 s13 => some (v12, s13)).bind fun q11 => some (AV.tuple [], q11.2)
noncomputable abbrev F46.q0 (k : Nat) : Kz := fun fr s => F46.p0 k (fr 0) (fr 1) s
theorem F46.e0 (k : Nat) : F46.X k F46.c3 (retK Try.prog F46.rs) xN = (F46.q0 k) := drawE [0, 0, 2, 6, 1, 17, 49, 127]
noncomputable abbrev F46.c4 : Code := cL F46.c2
noncomputable def F46.p1 (k : Nat) (x0 x1 : AV) (s : Store) : Rz :=
  (some (x0, s)).bind fun q1 => (some (x1, q1.2)).bind fun q2 => (aNilCheck q2.1 fun v4 => some (v4, q2.2)).bind fun q3 => (aFieldAddr 8 q3.1 fun v6 => some (v6, q3.2)).bind fun q5 => (some ((AV.meth "unison/wire.small" q1.1), q5.2)).bind fun q7 => (aNilCheck q7.1 fun v9 => some (v9, q7.2)).bind fun q8 => (some (q1.1, q8.2)).bind fun q10 => (aInvoke Try.prog (rn k) q10.1 "unison/wire.small" [q5.1] q10.2 fun v12 s13 => some (v12, s13)).bind fun q11 => F46.p0 k x0 x1 q11.2
noncomputable abbrev F46.q1 (k : Nat) : Kz := fun fr s => F46.p1 k (fr 0) (fr 1) s
theorem F46.e1 (k : Nat) : F46.X k F46.c4 (F46.q0 k) xN = (F46.q1 k) := drawE [0, 0, 2, 6, 1, 17, 49, 127]
theorem F46.e2 (k : Nat) : F46.X k F46.c2 (retK Try.prog F46.rs) xN = (F46.q1 k) := seqE (F46.e0 k) (F46.e1 k)
noncomputable abbrev F46.c5 : Code := cL F46.c1
noncomputable def F46.p2 (k : Nat) (x0 x1 : AV) (s : Store) : Rz :=
  (some (x0, s)).bind fun q1 => (some (x1, q1.2)).bind fun q2 => (aNilCheck q2.1 fun v4 => some (v4, q2.2)).bind fun q3 => (aFieldAddr 7 q3.1 fun v6 => some (v6, q3.2)).bind fun q5 => (some ((AV.meth "unison/wire.small" q1.1), q5.2)).bind fun q7 => (aNilCheck q7.1 fun v9 => some (v9, q7.2)).bind fun q8 => (some (q1.1, q8.2)).bind fun q10 => (aInvoke Try.prog (rn k) q10.1 "unison/wire.small" [q5.1] q10.2 fun v12 s13 => some (v12, s13)).bind fun q11 => F46.p1 k x0 x1 q11.2
noncomputable abbrev F46.q2 (k : Nat) : Kz := fun fr s => F46.p2 k (fr 0) (fr 1) s
theorem F46.e3 (k : Nat) : F46.X k F46.c5 (F46.q1 k) xN = (F46.q2 k) := drawE [0, 0, 2, 6, 1, 17, 49, 127]
theorem F46.e4 (k : Nat) : F46.X k F46.c1 (retK Try.prog F46.rs) xN = (F46.q2 k) := seqE (F46.e2 k) (F46.e3 k)
noncomputable abbrev F46.c6 : Code := cL F46.c0
noncomputable def F46.p3 (k : Nat) (x0 x1 : AV) (s : Store) : Rz :=
  (some (x0, s)).bind fun q1 => (some (x1, q1.2)).bind fun q2 => (aNilCheck q2.1 fun v4 => some (v4, q2.2)).bind fun q3 => (aFieldAddr 6 q3.1 fun v6 => some (v6, q3.2)).bind fun q5 => (some ((AV.meth "unison/wire.small" q1.1), q5.2)).bind fun q7 => (aNilCheck q7.1 fun v9 => some (v9, q7.2)).bind fun q8 => (some (q1.1, q8.2)).bind fun q10 => (aInvoke Try.prog (rn k) q10.1 "unison/wire.small" [q5.1] q10.2 fun v12 s13 => some (v12, s13)).bind fun q11 => F46.p2 k x0 x1 q11.2
noncomputable abbrev F46.q3 (k : Nat) : Kz := fun fr s => F46.p3 k (fr 0) (fr 1) s
theorem F46.e5 (k : Nat) : F46.X k F46.c6 (F46.q2 k) xN = (F46.q3 k) := drawE [0, 0, 2, 6, 1, 17, 49, 127]
theorem F46.e6 (k : Nat) : F46.X k F46.c0 (retK Try.prog F46.rs) xN = (F46.q3 k) := seqE (F46.e4 k) (F46.e5 k)
noncomputable abbrev F46.c7 : Code := cL F46.code
noncomputable def F46.p4 (k : Nat) (x0 x1 : AV) (s : Store) : Rz :=
  aNilCheck x1 fun v1 => aFieldAddr 3 v1 fun v2 => (rn k 47 [x0, v2] s).bind fun q3 => F46.p3 k x0 x1 q3.2
noncomputable abbrev F46.q4 (k : Nat) : Kz := fun fr s => F46.p4 k (fr 0) (fr 1) s
theorem F46.e7 (k : Nat) : F46.X k F46.c7 (F46.q3 k) xN = (F46.q4 k) := lE
theorem F46.e8 (k : Nat) : F46.X k F46.code (retK Try.prog F46.rs) xN = (F46.q4 k) := seqE (F46.e6 k) (F46.e7 k)
noncomputable def F46.f (k : Nat) (a0 a1 : AV) (s : Store) : Rz := F46.p4 k a0 a1 s
theorem F46.eq (k : Nat) (a0 a1 : AV) (s : Store) : rn (k + 1) 46 [a0, a1] s = F46.f k a0 a1 s :=
  (rn_eq Try.func46 (by kernel_rfl) (by kernel_rfl) (by kernel_rfl) k s (by kernel_rfl)).trans (congrFun (congrFun (F46.e8 k) (frOf [a0, a1])) s)

/-! unison/wire.runs: function 48 -/
noncomputable def F48.code : Code := bodyOf Try.f48
noncomputable def F48.rs : List ResultVar := Try.f48.results.toList
noncomputable abbrev F48.X (k : Nat) (c : Code) (n : Kz) (x : Nat → Kz) : Kz := exec Try.prog (rn k) k 64 c ⟨n, x, retK Try.prog F48.rs⟩
noncomputable abbrev F48.c0 : Code := cR F48.code
noncomputable abbrev F48.c1 : Code := cR F48.c0
noncomputable abbrev F48.x0 (k : Nat) : Nat → Kz := xB 0 (retK Try.prog F48.rs) xN
noncomputable abbrev F48.c2 : Code := cB F48.c1
noncomputable abbrev F48.c3 : Code := cB F48.c2
noncomputable abbrev F48.c4 : Code := cR F48.c3
noncomputable abbrev F48.c5 : Code := cR F48.c4
noncomputable abbrev F48.c6 : Code := cR F48.c5
noncomputable def F48.p0 (k : Nat) (R0 : Ar4) (x0 x1 x16 x17 : AV) (s : Store) : Rz :=
  aBin .add x17 (AV.int .i64 1) fun v1 => R0 x0 x1 x16 v1 s
noncomputable abbrev F48.q0 (k : Nat) (R0 : Ar4) : Kz := fun fr s => F48.p0 k R0 (fr 0) (fr 1) (fr 16) (fr 17) s
theorem F48.e0 (k : Nat) (R0 : Ar4) : F48.X k F48.c6 (fun fr s => R0 (fr 0) (fr 1) (fr 16) (fr 17) s) (F48.x0 k) = (F48.q0 k R0) := lE
noncomputable abbrev F48.c7 : Code := cL F48.c5
noncomputable abbrev F48.x1 (k : Nat) (R0 : Ar4) : Nat → Kz := xB 1 (F48.q0 k R0) (F48.x0 k)
noncomputable abbrev F48.c8 : Code := cB F48.c7
noncomputable abbrev F48.c9 : Code := cR F48.c8
noncomputable abbrev F48.c10 : Code := cR F48.c9
noncomputable abbrev F48.c11 : Code := cR F48.c10
noncomputable abbrev F48.c12 : Code := cR F48.c11
noncomputable abbrev F48.c13 : Code := cR F48.c12
noncomputable def F48.p1 (k : Nat) (R0 : Ar4) (x0 x1 x6 x16 x17 : AV) (s : Store) : Rz :=
  (some (x0, s)).bind fun q1 => (some (x6, q1.2)).bind fun q2 => (aNilCheck q2.1 fun v4 => some (v4, q2.2)).bind fun q3 => (aFieldAddr 2 q3.1 fun v6 => some (v6, q3.2)).bind fun q5 => (some ((AV.meth "unison/wire.num" q1.1), q5.2)).bind fun q7 => (aNilCheck q7.1 fun v9 => some (v9, q7.2)).bind fun q8 => (some (q1.1, q8.2)).bind fun q10 => (aInvoke Try.prog (rn k) q10.1 "unison/wire.num" [q5.1] q10.2 fun v12 s13 => some (v12, s13)).bind fun q11 => F48.p0 k R0 x0 x1 x16 x17 q11.2
noncomputable abbrev F48.q1 (k : Nat) (R0 : Ar4) : Kz := fun fr s => F48.p1 k R0 (fr 0) (fr 1) (fr 6) (fr 16) (fr 17) s
theorem F48.e1 (k : Nat) (R0 : Ar4) : F48.X k F48.c13 (F48.q0 k R0) (F48.x1 k R0) = (F48.q1 k R0) := drawE [0, 0, 2, 6, 1, 17, 49, 127]
noncomputable abbrev F48.c14 : Code := cL F48.c12
noncomputable def F48.p2 (k : Nat) (R0 : Ar4) (x0 x1 x6 x16 x17 : AV) (s : Store) : Rz :=
  (some (x0, s)).bind fun q1 => (some (x6, q1.2)).bind fun q2 => (aNilCheck q2.1 fun v4 => some (v4, q2.2)).bind fun q3 => (aFieldAddr 1 q3.1 fun v6 => some (v6, q3.2)).bind fun q5 => (some ((AV.meth "unison/wire.num" q1.1), q5.2)).bind fun q7 => (aNilCheck q7.1 fun v9 => some (v9, q7.2)).bind fun q8 => (some (q1.1, q8.2)).bind fun q10 => (aInvoke Try.prog (rn k) q10.1 "unison/wire.num" [q5.1] q10.2 fun v12 s13 => some (v12, s13)).bind fun q11 => F48.p1 k R0 x0 x1 x6 x16 x17 q11.2
noncomputable abbrev F48.q2 (k : Nat) (R0 : Ar4) : Kz := fun fr s => F48.p2 k R0 (fr 0) (fr 1) (fr 6) (fr 16) (fr 17) s
theorem F48.e2 (k : Nat) (R0 : Ar4) : F48.X k F48.c14 (F48.q1 k R0) (F48.x1 k R0) = (F48.q2 k R0) := drawE [0, 0, 2, 6, 1, 17, 49, 127]
theorem F48.e3 (k : Nat) (R0 : Ar4) : F48.X k F48.c12 (F48.q0 k R0) (F48.x1 k R0) = (F48.q2 k R0) := seqE (F48.e1 k R0) (F48.e2 k R0)
noncomputable abbrev F48.c15 : Code := cL F48.c11
noncomputable def F48.p3 (k : Nat) (R0 : Ar4) (x0 x1 x6 x16 x17 : AV) (s : Store) : Rz :=
  (some (x0, s)).bind fun q1 => (some (x6, q1.2)).bind fun q2 => (aNilCheck q2.1 fun v4 => some (v4, q2.2)).bind fun q3 => (aFieldAddr 0 q3.1 fun v6 => some (v6, q3.2)).bind fun q5 => (some ((AV.meth "unison/wire.who" q1.1), q5.2)).bind fun q7 => (aNilCheck q7.1 fun v9 => some (v9, q7.2)).bind fun q8 => (some (q1.1, q8.2)).bind fun q10 => (aInvoke Try.prog (rn k) q10.1 "unison/wire.who" [q5.1] q10.2 fun v12 s13 => some (v12, s13)).bind fun q11 => F48.p2 k R0 x0 x1 x6 x16 x17 q11.2
noncomputable abbrev F48.q3 (k : Nat) (R0 : Ar4) : Kz := fun fr s => F48.p3 k R0 (fr 0) (fr 1) (fr 6) (fr 16) (fr 17) s
theorem F48.e4 (k : Nat) (R0 : Ar4) : F48.X k F48.c15 (F48.q2 k R0) (F48.x1 k R0) = (F48.q3 k R0) := drawE [0, 0, 2, 6, 1, 17, 49, 127]
theorem F48.e5 (k : Nat) (R0 : Ar4) : F48.X k F48.c11 (F48.q0 k R0) (F48.x1 k R0) = (F48.q3 k R0) := seqE (F48.e3 k R0) (F48.e4 k R0)
noncomputable abbrev F48.c16 : Code := cL F48.c10
noncomputable def F48.p4 (k : Nat) (R0 : Ar4) (x0 x1 x5 x16 x17 : AV) (s : Store) : Rz :=
  aNilCheck x1 fun v1 => aLoad1 v1 s fun v2 => aIndexSl 3 v2 x5 fun v3 => F48.p3 k R0 x0 x1 v3 x16 x17 s
noncomputable abbrev F48.q4 (k : Nat) (R0 : Ar4) : Kz := fun fr s => F48.p4 k R0 (fr 0) (fr 1) (fr 5) (fr 16) (fr 17) s
theorem F48.e6 (k : Nat) (R0 : Ar4) : F48.X k F48.c16 (F48.q3 k R0) (F48.x1 k R0) = (F48.q4 k R0) := lE
theorem F48.e7 (k : Nat) (R0 : Ar4) : F48.X k F48.c10 (F48.q0 k R0) (F48.x1 k R0) = (F48.q4 k R0) := seqE (F48.e5 k R0) (F48.e6 k R0)
noncomputable abbrev F48.c17 : Code := cL F48.c9
noncomputable def F48.p5 (k : Nat) (R0 : Ar4) (x0 x1 x5 x16 x17 : AV) (s : Store) : Rz :=
  aNilCheck x1 fun v1 => aLoad1 v1 s fun v2 => aLen v2 fun v3 => aBin .geq x5 v3 fun v4 => aIf v4 (aNilCheck x1 fun v5 => aLoad1 v5 s fun v6 => aBuild [] [AV.int .u8 0, AV.int .u64 0, AV.int .u64 0] fun c7 => aBuild [(0, 3, (AV.agg c7))] [AV.int .u8 0, AV.int .u64 0, AV.int .u64 0] fun c8 => aAppend 3 24 v6 (AV.sl s.next 0 1 3 3) (s.push (.cells c8 false)) fun v9 s10 => aNilCheck x1 fun v11 => aStore 1 v11 v9 s10 fun s12 => F48.p4 k R0 x0 x1 x5 x16 x17 s12) (F48.p4 k R0 x0 x1 x5 x16 x17 s)
noncomputable abbrev F48.q5 (k : Nat) (R0 : Ar4) : Kz := fun fr s => F48.p5 k R0 (fr 0) (fr 1) (fr 5) (fr 16) (fr 17) s
theorem F48.e8 (k : Nat) (R0 : Ar4) : F48.X k F48.c17 (F48.q4 k R0) (F48.x1 k R0) = (F48.q5 k R0) := lE
theorem F48.e9 (k : Nat) (R0 : Ar4) : F48.X k F48.c9 (F48.q0 k R0) (F48.x1 k R0) = (F48.q5 k R0) := seqE (F48.e7 k R0) (F48.e8 k R0)
noncomputable abbrev F48.c18 : Code := cL F48.c8
noncomputable def F48.p6 (k : Nat) (R0 : Ar4) (x0 x1 x16 x17 : AV) (s : Store) : Rz :=
  F48.p5 k R0 x0 x1 x17 x16 x17 s
noncomputable abbrev F48.q6 (k : Nat) (R0 : Ar4) : Kz := fun fr s => F48.p6 k R0 (fr 0) (fr 1) (fr 16) (fr 17) s
theorem F48.e10 (k : Nat) (R0 : Ar4) : F48.X k F48.c18 (F48.q5 k R0) (F48.x1 k R0) = (F48.q6 k R0) := lE
theorem F48.e11 (k : Nat) (R0 : Ar4) : F48.X k F48.c8 (F48.q0 k R0) (F48.x1 k R0) = (F48.q6 k R0) := seqE (F48.e9 k R0) (F48.e10 k R0)
theorem F48.e12 (k : Nat) (R0 : Ar4) : F48.X k F48.c7 (F48.q0 k R0) (F48.x0 k) = (F48.q6 k R0) := blockE (i := 1) (F48.e11 k R0)
theorem F48.e13 (k : Nat) (R0 : Ar4) : F48.X k F48.c5 (fun fr s => R0 (fr 0) (fr 1) (fr 16) (fr 17) s) (F48.x0 k) = (F48.q6 k R0) := seqE (F48.e0 k R0) (F48.e12 k R0)
noncomputable abbrev F48.c19 : Code := cL F48.c4
noncomputable def F48.p7 (k : Nat) (R0 : Ar4) (x0 x1 x16 x17 x18 : AV) (s : Store) : Rz :=
  aIf x18 (F48.p6 k R0 x0 x1 x16 x17 s) (some (AV.tuple [], s))
noncomputable abbrev F48.q7 (k : Nat) (R0 : Ar4) : Kz := fun fr s => F48.p7 k R0 (fr 0) (fr 1) (fr 16) (fr 17) (fr 18) s
theorem F48.e14 (k : Nat) (R0 : Ar4) : F48.X k F48.c19 (F48.q6 k R0) (F48.x0 k) = (F48.q7 k R0) := lE
theorem F48.e15 (k : Nat) (R0 : Ar4) : F48.X k F48.c4 (fun fr s => R0 (fr 0) (fr 1) (fr 16) (fr 17) s) (F48.x0 k) = (F48.q7 k R0) := seqE (F48.e13 k R0) (F48.e14 k R0)
noncomputable abbrev F48.c20 : Code := cL F48.c3
noncomputable def F48.p8 (k : Nat) (R0 : Ar4) (x0 x1 x16 x17 : AV) (s : Store) : Rz :=
  aBin .lss x17 x16 fun v1 => F48.p7 k R0 x0 x1 x16 x17 v1 s
noncomputable abbrev F48.q8 (k : Nat) (R0 : Ar4) : Kz := fun fr s => F48.p8 k R0 (fr 0) (fr 1) (fr 16) (fr 17) s
theorem F48.e16 (k : Nat) (R0 : Ar4) : F48.X k F48.c20 (F48.q7 k R0) (F48.x0 k) = (F48.q8 k R0) := lE
theorem F48.e17 (k : Nat) (R0 : Ar4) : F48.X k F48.c3 (fun fr s => R0 (fr 0) (fr 1) (fr 16) (fr 17) s) (F48.x0 k) = (F48.q8 k R0) := seqE (F48.e15 k R0) (F48.e16 k R0)
noncomputable def F48.l0 (k : Nat) : Nat → Ar4 := iterF (fun _ _ _ _ _ => none) (fun R0 x0 x1 x16 x17 s => F48.p8 k R0 x0 x1 x16 x17 s)
theorem F48.e18 (k : Nat) : F48.X k F48.c2 (retK Try.prog F48.rs) (F48.x0 k) = (fun fr s => F48.l0 k k (fr 0) (fr 1) (fr 16) (fr 17) s) := loopE (fun R0 : Ar4 => (fun fr s => R0 (fr 0) (fr 1) (fr 16) (fr 17) s)) (z := (fun _ _ _ _ _ => none)) (B := (fun R0 x0 x1 x16 x17 s => F48.p8 k R0 x0 x1 x16 x17 s)) rfl (fun R0 => F48.e17 k R0)
theorem F48.e19 (k : Nat) : F48.X k F48.c1 (retK Try.prog F48.rs) xN = (fun fr s => F48.l0 k k (fr 0) (fr 1) (fr 16) (fr 17) s) := blockE (i := 0) (F48.e18 k)
noncomputable abbrev F48.c21 : Code := cL F48.c0
noncomputable def F48.p9 (k : Nat) (x0 x1 x4 : AV) (s : Store) : Rz :=
  F48.l0 k k x0 x1 x4 (AV.int .i64 0) s
noncomputable abbrev F48.q9 (k : Nat) : Kz := fun fr s => F48.p9 k (fr 0) (fr 1) (fr 4) s
theorem F48.e20 (k : Nat) : F48.X k F48.c21 (fun fr s => F48.l0 k k (fr 0) (fr 1) (fr 16) (fr 17) s) xN = (F48.q9 k) := lE
theorem F48.e21 (k : Nat) : F48.X k F48.c0 (retK Try.prog F48.rs) xN = (F48.q9 k) := seqE (F48.e19 k) (F48.e20 k)
noncomputable abbrev F48.c22 : Code := cL F48.code
noncomputable def F48.p10 (k : Nat) (x0 x1 : AV) (s : Store) : Rz :=
  (some (x0, s)).bind fun q1 => (some (x1, q1.2)).bind fun q2 => (aNilCheck q2.1 fun v4 => some (v4, q2.2)).bind fun q3 => (aLoad1 q3.1 q3.2 fun v6 => some (v6, q3.2)).bind fun q5 => (aLen q5.1 fun v8 => some (v8, q5.2)).bind fun q7 => (some ((AV.meth "unison/wire.many" q1.1), q7.2)).bind fun q9 => (aNilCheck q9.1 fun v11 => some (v11, q9.2)).bind fun q10 => (some (q1.1, q10.2)).bind fun q12 => (aInvoke Try.prog (rn k) q12.1 "unison/wire.many" [q7.1] q12.2 fun v14 s15 => some (v14, s15)).bind fun q13 => (some (q13.1, q13.2)).bind fun q16 => F48.p9 k x0 x1 q16.1 q16.2
noncomputable abbrev F48.q10 (k : Nat) : Kz := fun fr s => F48.p10 k (fr 0) (fr 1) s
theorem F48.e22 (k : Nat) : F48.X k F48.c22 (F48.q9 k) xN = (F48.q10 k) := drawE [0, 0, 2, 6, 14, 1, 33, 97, 255, 511]
theorem F48.e23 (k : Nat) : F48.X k F48.code (retK Try.prog F48.rs) xN = (F48.q10 k) := seqE (F48.e21 k) (F48.e22 k)
noncomputable def F48.f (k : Nat) (a0 a1 : AV) (s : Store) : Rz := F48.p10 k a0 a1 s
theorem F48.eq (k : Nat) (a0 a1 : AV) (s : Store) : rn (k + 1) 48 [a0, a1] s = F48.f k a0 a1 s :=
  (rn_eq Try.func48 (by kernel_rfl) (by kernel_rfl) (by kernel_rfl) k s (by kernel_rfl)).trans (congrFun (congrFun (F48.e23 k) (frOf [a0, a1])) s)

/-! unison/wire.nums: function 49 -/
noncomputable def F49.code : Code := bodyOf Try.f49
noncomputable def F49.rs : List ResultVar := Try.f49.results.toList
noncomputable abbrev F49.X (k : Nat) (c : Code) (n : Kz) (x : Nat → Kz) : Kz := exec Try.prog (rn k) k 43 c ⟨n, x, retK Try.prog F49.rs⟩
noncomputable abbrev F49.c0 : Code := cR F49.code
noncomputable abbrev F49.c1 : Code := cR F49.c0
noncomputable abbrev F49.x0 (k : Nat) : Nat → Kz := xB 0 (retK Try.prog F49.rs) xN
noncomputable abbrev F49.c2 : Code := cB F49.c1
noncomputable abbrev F49.c3 : Code := cB F49.c2
noncomputable abbrev F49.c4 : Code := cR F49.c3
noncomputable abbrev F49.c5 : Code := cR F49.c4
noncomputable abbrev F49.c6 : Code := cR F49.c5
noncomputable def F49.p0 (k : Nat) (R0 : Ar4) (x0 x1 x15 x16 : AV) (s : Store) : Rz :=
  aBin .add x16 (AV.int .i64 1) fun v1 => R0 x0 x1 x15 v1 s
noncomputable abbrev F49.q0 (k : Nat) (R0 : Ar4) : Kz := fun fr s => F49.p0 k R0 (fr 0) (fr 1) (fr 15) (fr 16) s
theorem F49.e0 (k : Nat) (R0 : Ar4) : F49.X k F49.c6 (fun fr s => R0 (fr 0) (fr 1) (fr 15) (fr 16) s) (F49.x0 k) = (F49.q0 k R0) := lE
noncomputable abbrev F49.c7 : Code := cL F49.c5
noncomputable abbrev F49.x1 (k : Nat) (R0 : Ar4) : Nat → Kz := xB 1 (F49.q0 k R0) (F49.x0 k)
noncomputable abbrev F49.c8 : Code := cB F49.c7
noncomputable abbrev F49.c9 : Code := cR F49.c8
noncomputable abbrev F49.c10 : Code := cR F49.c9
noncomputable def F49.p1 (k : Nat) (R0 : Ar4) (x0 x1 x5 x15 x16 : AV) (s : Store) : Rz :=
  (some (x0, s)).bind fun q1 => (some (x1, q1.2)).bind fun q2 => (aNilCheck q2.1 fun v4 => some (v4, q2.2)).bind fun q3 => (aLoad1 q3.1 q3.2 fun v6 => some (v6, q3.2)).bind fun q5 => (some (x5, q5.2)).bind fun q7 => (aIndexSl 1 q5.1 q7.1 fun v9 => some (v9, q7.2)).bind fun q8 => (some ((AV.meth "unison/wire.num" q1.1), q8.2)).bind fun q10 => (aNilCheck q10.1 fun v12 => some (v12, q10.2)).bind fun q11 => (some (q1.1, q11.2)).bind fun q13 => (aInvoke Try.prog (rn k) q13.1 "unison/wire.num" [q8.1] q13.2 fun v15 s16 => some (v15, s16)).bind fun q14 => F49.p0 k R0 x0 x1 x15 x16 q14.2
noncomputable abbrev F49.q1 (k : Nat) (R0 : Ar4) : Kz := fun fr s => F49.p1 k R0 (fr 0) (fr 1) (fr 5) (fr 15) (fr 16) s
theorem F49.e1 (k : Nat) (R0 : Ar4) : F49.X k F49.c10 (F49.q0 k R0) (F49.x1 k R0) = (F49.q1 k R0) := drawE [0, 0, 2, 6, 0, 30, 1, 65, 193, 511]
noncomputable abbrev F49.c11 : Code := cL F49.c9
noncomputable def F49.p2 (k : Nat) (R0 : Ar4) (x0 x1 x5 x15 x16 : AV) (s : Store) : Rz :=
  aNilCheck x1 fun v1 => aLoad1 v1 s fun v2 => aLen v2 fun v3 => aBin .geq x5 v3 fun v4 => aIf v4 (aNilCheck x1 fun v5 => aLoad1 v5 s fun v6 => aBuild [(0, 1, (AV.int .u64 0))] [AV.int .u64 0] fun c7 => aAppend 1 8 v6 (AV.sl s.next 0 1 1 1) (s.push (.cells c7 false)) fun v8 s9 => aNilCheck x1 fun v10 => aStore 1 v10 v8 s9 fun s11 => F49.p1 k R0 x0 x1 x5 x15 x16 s11) (F49.p1 k R0 x0 x1 x5 x15 x16 s)
noncomputable abbrev F49.q2 (k : Nat) (R0 : Ar4) : Kz := fun fr s => F49.p2 k R0 (fr 0) (fr 1) (fr 5) (fr 15) (fr 16) s
theorem F49.e2 (k : Nat) (R0 : Ar4) : F49.X k F49.c11 (F49.q1 k R0) (F49.x1 k R0) = (F49.q2 k R0) := lE
theorem F49.e3 (k : Nat) (R0 : Ar4) : F49.X k F49.c9 (F49.q0 k R0) (F49.x1 k R0) = (F49.q2 k R0) := seqE (F49.e1 k R0) (F49.e2 k R0)
noncomputable abbrev F49.c12 : Code := cL F49.c8
noncomputable def F49.p3 (k : Nat) (R0 : Ar4) (x0 x1 x15 x16 : AV) (s : Store) : Rz :=
  F49.p2 k R0 x0 x1 x16 x15 x16 s
noncomputable abbrev F49.q3 (k : Nat) (R0 : Ar4) : Kz := fun fr s => F49.p3 k R0 (fr 0) (fr 1) (fr 15) (fr 16) s
theorem F49.e4 (k : Nat) (R0 : Ar4) : F49.X k F49.c12 (F49.q2 k R0) (F49.x1 k R0) = (F49.q3 k R0) := lE
theorem F49.e5 (k : Nat) (R0 : Ar4) : F49.X k F49.c8 (F49.q0 k R0) (F49.x1 k R0) = (F49.q3 k R0) := seqE (F49.e3 k R0) (F49.e4 k R0)
theorem F49.e6 (k : Nat) (R0 : Ar4) : F49.X k F49.c7 (F49.q0 k R0) (F49.x0 k) = (F49.q3 k R0) := blockE (i := 1) (F49.e5 k R0)
theorem F49.e7 (k : Nat) (R0 : Ar4) : F49.X k F49.c5 (fun fr s => R0 (fr 0) (fr 1) (fr 15) (fr 16) s) (F49.x0 k) = (F49.q3 k R0) := seqE (F49.e0 k R0) (F49.e6 k R0)
noncomputable abbrev F49.c13 : Code := cL F49.c4
noncomputable def F49.p4 (k : Nat) (R0 : Ar4) (x0 x1 x15 x16 x17 : AV) (s : Store) : Rz :=
  aIf x17 (F49.p3 k R0 x0 x1 x15 x16 s) (some (AV.tuple [], s))
noncomputable abbrev F49.q4 (k : Nat) (R0 : Ar4) : Kz := fun fr s => F49.p4 k R0 (fr 0) (fr 1) (fr 15) (fr 16) (fr 17) s
theorem F49.e8 (k : Nat) (R0 : Ar4) : F49.X k F49.c13 (F49.q3 k R0) (F49.x0 k) = (F49.q4 k R0) := lE
theorem F49.e9 (k : Nat) (R0 : Ar4) : F49.X k F49.c4 (fun fr s => R0 (fr 0) (fr 1) (fr 15) (fr 16) s) (F49.x0 k) = (F49.q4 k R0) := seqE (F49.e7 k R0) (F49.e8 k R0)
noncomputable abbrev F49.c14 : Code := cL F49.c3
noncomputable def F49.p5 (k : Nat) (R0 : Ar4) (x0 x1 x15 x16 : AV) (s : Store) : Rz :=
  aBin .lss x16 x15 fun v1 => F49.p4 k R0 x0 x1 x15 x16 v1 s
noncomputable abbrev F49.q5 (k : Nat) (R0 : Ar4) : Kz := fun fr s => F49.p5 k R0 (fr 0) (fr 1) (fr 15) (fr 16) s
theorem F49.e10 (k : Nat) (R0 : Ar4) : F49.X k F49.c14 (F49.q4 k R0) (F49.x0 k) = (F49.q5 k R0) := lE
theorem F49.e11 (k : Nat) (R0 : Ar4) : F49.X k F49.c3 (fun fr s => R0 (fr 0) (fr 1) (fr 15) (fr 16) s) (F49.x0 k) = (F49.q5 k R0) := seqE (F49.e9 k R0) (F49.e10 k R0)
noncomputable def F49.l0 (k : Nat) : Nat → Ar4 := iterF (fun _ _ _ _ _ => none) (fun R0 x0 x1 x15 x16 s => F49.p5 k R0 x0 x1 x15 x16 s)
theorem F49.e12 (k : Nat) : F49.X k F49.c2 (retK Try.prog F49.rs) (F49.x0 k) = (fun fr s => F49.l0 k k (fr 0) (fr 1) (fr 15) (fr 16) s) := loopE (fun R0 : Ar4 => (fun fr s => R0 (fr 0) (fr 1) (fr 15) (fr 16) s)) (z := (fun _ _ _ _ _ => none)) (B := (fun R0 x0 x1 x15 x16 s => F49.p5 k R0 x0 x1 x15 x16 s)) rfl (fun R0 => F49.e11 k R0)
theorem F49.e13 (k : Nat) : F49.X k F49.c1 (retK Try.prog F49.rs) xN = (fun fr s => F49.l0 k k (fr 0) (fr 1) (fr 15) (fr 16) s) := blockE (i := 0) (F49.e12 k)
noncomputable abbrev F49.c15 : Code := cL F49.c0
noncomputable def F49.p6 (k : Nat) (x0 x1 x4 : AV) (s : Store) : Rz :=
  F49.l0 k k x0 x1 x4 (AV.int .i64 0) s
noncomputable abbrev F49.q6 (k : Nat) : Kz := fun fr s => F49.p6 k (fr 0) (fr 1) (fr 4) s
theorem F49.e14 (k : Nat) : F49.X k F49.c15 (fun fr s => F49.l0 k k (fr 0) (fr 1) (fr 15) (fr 16) s) xN = (F49.q6 k) := lE
theorem F49.e15 (k : Nat) : F49.X k F49.c0 (retK Try.prog F49.rs) xN = (F49.q6 k) := seqE (F49.e13 k) (F49.e14 k)
noncomputable abbrev F49.c16 : Code := cL F49.code
noncomputable def F49.p7 (k : Nat) (x0 x1 : AV) (s : Store) : Rz :=
  (some (x0, s)).bind fun q1 => (some (x1, q1.2)).bind fun q2 => (aNilCheck q2.1 fun v4 => some (v4, q2.2)).bind fun q3 => (aLoad1 q3.1 q3.2 fun v6 => some (v6, q3.2)).bind fun q5 => (aLen q5.1 fun v8 => some (v8, q5.2)).bind fun q7 => (some ((AV.meth "unison/wire.many" q1.1), q7.2)).bind fun q9 => (aNilCheck q9.1 fun v11 => some (v11, q9.2)).bind fun q10 => (some (q1.1, q10.2)).bind fun q12 => (aInvoke Try.prog (rn k) q12.1 "unison/wire.many" [q7.1] q12.2 fun v14 s15 => some (v14, s15)).bind fun q13 => (some (q13.1, q13.2)).bind fun q16 => F49.p6 k x0 x1 q16.1 q16.2
noncomputable abbrev F49.q7 (k : Nat) : Kz := fun fr s => F49.p7 k (fr 0) (fr 1) s
theorem F49.e16 (k : Nat) : F49.X k F49.c16 (F49.q6 k) xN = (F49.q7 k) := drawE [0, 0, 2, 6, 14, 1, 33, 97, 255, 511]
theorem F49.e17 (k : Nat) : F49.X k F49.code (retK Try.prog F49.rs) xN = (F49.q7 k) := seqE (F49.e15 k) (F49.e16 k)
noncomputable def F49.f (k : Nat) (a0 a1 : AV) (s : Store) : Rz := F49.p7 k a0 a1 s
theorem F49.eq (k : Nat) (a0 a1 : AV) (s : Store) : rn (k + 1) 49 [a0, a1] s = F49.f k a0 a1 s :=
  (rn_eq Try.func49 (by kernel_rfl) (by kernel_rfl) (by kernel_rfl) k s (by kernel_rfl)).trans (congrFun (congrFun (F49.e17 k) (frOf [a0, a1])) s)

/-! unison/wire.visit: function 19 -/
noncomputable def F19.code : Code := bodyOf Try.f19
noncomputable def F19.rs : List ResultVar := Try.f19.results.toList
noncomputable abbrev F19.X (k : Nat) (c : Code) (n : Kz) (x : Nat → Kz) : Kz := exec Try.prog (rn k) k 124 c ⟨n, x, retK Try.prog F19.rs⟩
noncomputable abbrev F19.c0 : Code := cR F19.code
noncomputable abbrev F19.x0 (k : Nat) : Nat → Kz := xB 0 (retK Try.prog F19.rs) xN
noncomputable abbrev F19.c1 : Code := cB F19.c0
noncomputable abbrev F19.c2 : Code := cR F19.c1
noncomputable abbrev F19.c3 : Code := cT F19.c2
noncomputable abbrev F19.c4 : Code := cR F19.c3
noncomputable def F19.p0 (k : Nat) (x0 x1 : AV) (s : Store) : Rz :=
  (rn k 46 [x1, x0] s).bind fun q1 => some (AV.tuple [], q1.2)
noncomputable abbrev F19.q0 (k : Nat) : Kz := fun fr s => F19.p0 k (fr 0) (fr 1) s
theorem F19.e0 (k : Nat) : F19.X k F19.c4 (retK Try.prog F19.rs) (F19.x0 k) = (F19.q0 k) := lE
noncomputable abbrev F19.c5 : Code := cL F19.c3
noncomputable def F19.p1 (k : Nat) (x0 x1 : AV) (s : Store) : Rz :=
  (some (x1, s)).bind fun q1 => (some (x0, q1.2)).bind fun q2 => (aNilCheck q2.1 fun v4 => some (v4, q2.2)).bind fun q3 => (aFieldAddr 5 q3.1 fun v6 => some (v6, q3.2)).bind fun q5 => (some ((AV.meth "unison/wire.num" q1.1), q5.2)).bind fun q7 => (aNilCheck q7.1 fun v9 => some (v9, q7.2)).bind fun q8 => (some (q1.1, q8.2)).bind fun q10 => (aInvoke Try.prog (rn k) q10.1 "unison/wire.num" [q5.1] q10.2 fun v12 s13 => some (v12, s13)).bind fun q11 => F19.p0 k x0 x1 q11.2
noncomputable abbrev F19.q1 (k : Nat) : Kz := fun fr s => F19.p1 k (fr 0) (fr 1) s
theorem F19.e1 (k : Nat) : F19.X k F19.c5 (F19.q0 k) (F19.x0 k) = (F19.q1 k) := drawE [0, 0, 2, 6, 1, 17, 49, 127]
theorem F19.e2 (k : Nat) : F19.X k F19.c3 (retK Try.prog F19.rs) (F19.x0 k) = (F19.q1 k) := seqE (F19.e0 k) (F19.e1 k)
noncomputable abbrev F19.c6 : Code := cE F19.c2
noncomputable abbrev F19.c7 : Code := cR F19.c6
noncomputable abbrev F19.c8 : Code := cT F19.c7
noncomputable def F19.p2 (k : Nat) (x0 x1 : AV) (s : Store) : Rz :=
  (rn k 46 [x1, x0] s).bind fun q1 => some (AV.tuple [], q1.2)
noncomputable abbrev F19.q2 (k : Nat) : Kz := fun fr s => F19.p2 k (fr 0) (fr 1) s
theorem F19.e3 (k : Nat) : F19.X k F19.c8 (retK Try.prog F19.rs) (F19.x0 k) = (F19.q2 k) := lE
noncomputable abbrev F19.c9 : Code := cE F19.c7
noncomputable abbrev F19.c10 : Code := cR F19.c9
noncomputable abbrev F19.c11 : Code := cT F19.c10
noncomputable def F19.p3 (k : Nat) (x0 x1 : AV) (s : Store) : Rz :=
  (some (x1, s)).bind fun q1 => (some (x0, q1.2)).bind fun q2 => (aNilCheck q2.1 fun v4 => some (v4, q2.2)).bind fun q3 => (aFieldAddr 5 q3.1 fun v6 => some (v6, q3.2)).bind fun q5 => (some ((AV.meth "unison/wire.num" q1.1), q5.2)).bind fun q7 => (aNilCheck q7.1 fun v9 => some (v9, q7.2)).bind fun q8 => (some (q1.1, q8.2)).bind fun q10 => (aInvoke Try.prog (rn k) q10.1 "unison/wire.num" [q5.1] q10.2 fun v12 s13 => some (v12, s13)).bind fun q11 => some (AV.tuple [], q11.2)
noncomputable abbrev F19.q3 (k : Nat) : Kz := fun fr s => F19.p3 k (fr 0) (fr 1) s
theorem F19.e4 (k : Nat) : F19.X k F19.c11 (retK Try.prog F19.rs) (F19.x0 k) = (F19.q3 k) := drawE [0, 0, 2, 6, 1, 17, 49, 127]
noncomputable abbrev F19.c12 : Code := cE F19.c10
noncomputable abbrev F19.c13 : Code := cR F19.c12
noncomputable abbrev F19.c14 : Code := cT F19.c13
noncomputable abbrev F19.c15 : Code := cR F19.c14
noncomputable def F19.p4 (k : Nat) (x0 x1 : AV) (s : Store) : Rz :=
  (some (x1, s)).bind fun q1 => (some (x0, q1.2)).bind fun q2 => (aNilCheck q2.1 fun v4 => some (v4, q2.2)).bind fun q3 => (aFieldAddr 6 q3.1 fun v6 => some (v6, q3.2)).bind fun q5 => (some ((AV.meth "unison/wire.small" q1.1), q5.2)).bind fun q7 => (aNilCheck q7.1 fun v9 => some (v9, q7.2)).bind fun q8 => (some (q1.1, q8.2)).bind fun q10 => (aInvoke Try.prog (rn k) q10.1 "unison/wire.small" [q5.1] q10.2 fun v12 s13 => some (v12, s13)).bind fun q11 => some (AV.tuple [], q11.2)
noncomputable abbrev F19.q4 (k : Nat) : Kz := fun fr s => F19.p4 k (fr 0) (fr 1) s
theorem F19.e5 (k : Nat) : F19.X k F19.c15 (retK Try.prog F19.rs) (F19.x0 k) = (F19.q4 k) := drawE [0, 0, 2, 6, 1, 17, 49, 127]
noncomputable abbrev F19.c16 : Code := cL F19.c14
noncomputable def F19.p5 (k : Nat) (x0 x1 : AV) (s : Store) : Rz :=
  aNilCheck x0 fun v1 => aFieldAddr 3 v1 fun v2 => (rn k 47 [x1, v2] s).bind fun q3 => F19.p4 k x0 x1 q3.2
noncomputable abbrev F19.q5 (k : Nat) : Kz := fun fr s => F19.p5 k (fr 0) (fr 1) s
theorem F19.e6 (k : Nat) : F19.X k F19.c16 (F19.q4 k) (F19.x0 k) = (F19.q5 k) := lE
theorem F19.e7 (k : Nat) : F19.X k F19.c14 (retK Try.prog F19.rs) (F19.x0 k) = (F19.q5 k) := seqE (F19.e5 k) (F19.e6 k)
noncomputable abbrev F19.c17 : Code := cE F19.c13
noncomputable abbrev F19.c18 : Code := cR F19.c17
noncomputable abbrev F19.c19 : Code := cT F19.c18
noncomputable abbrev F19.c20 : Code := cR F19.c19
noncomputable abbrev F19.c21 : Code := cR F19.c20
noncomputable def F19.p6 (k : Nat) (x0 x1 : AV) (s : Store) : Rz :=
  aNilCheck x0 fun v1 => aFieldAddr 11 v1 fun v2 => (rn k 48 [x1, v2] s).bind fun q3 => aNilCheck x0 fun v4 => aFieldAddr 0 v4 fun v5 => aFieldAddr 0 v5 fun v6 => aLoad1 v6 q3.2 fun v7 => aBin .eql v7 (AV.int .u8 7) fun v8 => aIf v8 (aNilCheck x0 fun v9 => aFieldAddr 12 v9 fun v10 => (rn k 48 [x1, v10] q3.2).bind fun q11 => some (AV.tuple [], q11.2)) (some (AV.tuple [], q3.2))
noncomputable abbrev F19.q6 (k : Nat) : Kz := fun fr s => F19.p6 k (fr 0) (fr 1) s
theorem F19.e8 (k : Nat) : F19.X k F19.c21 (retK Try.prog F19.rs) (F19.x0 k) = (F19.q6 k) := lE
noncomputable abbrev F19.c22 : Code := cL F19.c20
noncomputable def F19.p7 (k : Nat) (x0 x1 : AV) (s : Store) : Rz :=
  (some (x1, s)).bind fun q1 => (some (x0, q1.2)).bind fun q2 => (aNilCheck q2.1 fun v4 => some (v4, q2.2)).bind fun q3 => (aFieldAddr 10 q3.1 fun v6 => some (v6, q3.2)).bind fun q5 => (some ((AV.meth "unison/wire.num" q1.1), q5.2)).bind fun q7 => (aNilCheck q7.1 fun v9 => some (v9, q7.2)).bind fun q8 => (some (q1.1, q8.2)).bind fun q10 => (aInvoke Try.prog (rn k) q10.1 "unison/wire.num" [q5.1] q10.2 fun v12 s13 => some (v12, s13)).bind fun q11 => F19.p6 k x0 x1 q11.2
noncomputable abbrev F19.q7 (k : Nat) : Kz := fun fr s => F19.p7 k (fr 0) (fr 1) s
theorem F19.e9 (k : Nat) : F19.X k F19.c22 (F19.q6 k) (F19.x0 k) = (F19.q7 k) := drawE [0, 0, 2, 6, 1, 17, 49, 127]
theorem F19.e10 (k : Nat) : F19.X k F19.c20 (retK Try.prog F19.rs) (F19.x0 k) = (F19.q7 k) := seqE (F19.e8 k) (F19.e9 k)
noncomputable abbrev F19.c23 : Code := cL F19.c19
noncomputable def F19.p8 (k : Nat) (x0 x1 : AV) (s : Store) : Rz :=
  (some (x1, s)).bind fun q1 => (some (x0, q1.2)).bind fun q2 => (aNilCheck q2.1 fun v4 => some (v4, q2.2)).bind fun q3 => (aFieldAddr 9 q3.1 fun v6 => some (v6, q3.2)).bind fun q5 => (some ((AV.meth "unison/wire.num" q1.1), q5.2)).bind fun q7 => (aNilCheck q7.1 fun v9 => some (v9, q7.2)).bind fun q8 => (some (q1.1, q8.2)).bind fun q10 => (aInvoke Try.prog (rn k) q10.1 "unison/wire.num" [q5.1] q10.2 fun v12 s13 => some (v12, s13)).bind fun q11 => F19.p7 k x0 x1 q11.2
noncomputable abbrev F19.q8 (k : Nat) : Kz := fun fr s => F19.p8 k (fr 0) (fr 1) s
theorem F19.e11 (k : Nat) : F19.X k F19.c23 (F19.q7 k) (F19.x0 k) = (F19.q8 k) := drawE [0, 0, 2, 6, 1, 17, 49, 127]
theorem F19.e12 (k : Nat) : F19.X k F19.c19 (retK Try.prog F19.rs) (F19.x0 k) = (F19.q8 k) := seqE (F19.e10 k) (F19.e11 k)
noncomputable abbrev F19.c24 : Code := cE F19.c18
noncomputable abbrev F19.c25 : Code := cR F19.c24
noncomputable abbrev F19.c26 : Code := cT F19.c25
noncomputable abbrev F19.c27 : Code := cR F19.c26
noncomputable def F19.p9 (k : Nat) (x0 x1 : AV) (s : Store) : Rz :=
  aNilCheck x0 fun v1 => aFieldAddr 11 v1 fun v2 => (rn k 48 [x1, v2] s).bind fun q3 => some (AV.tuple [], q3.2)
noncomputable abbrev F19.q9 (k : Nat) : Kz := fun fr s => F19.p9 k (fr 0) (fr 1) s
theorem F19.e13 (k : Nat) : F19.X k F19.c27 (retK Try.prog F19.rs) (F19.x0 k) = (F19.q9 k) := lE
noncomputable abbrev F19.c28 : Code := cL F19.c26
noncomputable def F19.p10 (k : Nat) (x0 x1 : AV) (s : Store) : Rz :=
  (some (x1, s)).bind fun q1 => (some (x0, q1.2)).bind fun q2 => (aNilCheck q2.1 fun v4 => some (v4, q2.2)).bind fun q3 => (aFieldAddr 9 q3.1 fun v6 => some (v6, q3.2)).bind fun q5 => (some ((AV.meth "unison/wire.num" q1.1), q5.2)).bind fun q7 => (aNilCheck q7.1 fun v9 => some (v9, q7.2)).bind fun q8 => (some (q1.1, q8.2)).bind fun q10 => (aInvoke Try.prog (rn k) q10.1 "unison/wire.num" [q5.1] q10.2 fun v12 s13 => some (v12, s13)).bind fun q11 => F19.p9 k x0 x1 q11.2
noncomputable abbrev F19.q10 (k : Nat) : Kz := fun fr s => F19.p10 k (fr 0) (fr 1) s
theorem F19.e14 (k : Nat) : F19.X k F19.c28 (F19.q9 k) (F19.x0 k) = (F19.q10 k) := drawE [0, 0, 2, 6, 1, 17, 49, 127]
theorem F19.e15 (k : Nat) : F19.X k F19.c26 (retK Try.prog F19.rs) (F19.x0 k) = (F19.q10 k) := seqE (F19.e13 k) (F19.e14 k)
noncomputable abbrev F19.c29 : Code := cE F19.c25
noncomputable abbrev F19.c30 : Code := cR F19.c29
noncomputable abbrev F19.c31 : Code := cT F19.c30
noncomputable abbrev F19.c32 : Code := cR F19.c31
noncomputable def F19.p11 (k : Nat) (x0 x1 : AV) (s : Store) : Rz :=
  aNilCheck x0 fun v1 => aFieldAddr 13 v1 fun v2 => (rn k 49 [x1, v2] s).bind fun q3 => aNilCheck x0 fun v4 => aFieldAddr 14 v4 fun v5 => (rn k 49 [x1, v5] q3.2).bind fun q6 => some (AV.tuple [], q6.2)
noncomputable abbrev F19.q11 (k : Nat) : Kz := fun fr s => F19.p11 k (fr 0) (fr 1) s
theorem F19.e16 (k : Nat) : F19.X k F19.c32 (retK Try.prog F19.rs) (F19.x0 k) = (F19.q11 k) := lE
noncomputable abbrev F19.c33 : Code := cL F19.c31
noncomputable def F19.p12 (k : Nat) (x0 x1 : AV) (s : Store) : Rz :=
  (some (x1, s)).bind fun q1 => (some (x0, q1.2)).bind fun q2 => (aNilCheck q2.1 fun v4 => some (v4, q2.2)).bind fun q3 => (aFieldAddr 9 q3.1 fun v6 => some (v6, q3.2)).bind fun q5 => (some ((AV.meth "unison/wire.num" q1.1), q5.2)).bind fun q7 => (aNilCheck q7.1 fun v9 => some (v9, q7.2)).bind fun q8 => (some (q1.1, q8.2)).bind fun q10 => (aInvoke Try.prog (rn k) q10.1 "unison/wire.num" [q5.1] q10.2 fun v12 s13 => some (v12, s13)).bind fun q11 => F19.p11 k x0 x1 q11.2
noncomputable abbrev F19.q12 (k : Nat) : Kz := fun fr s => F19.p12 k (fr 0) (fr 1) s
theorem F19.e17 (k : Nat) : F19.X k F19.c33 (F19.q11 k) (F19.x0 k) = (F19.q12 k) := drawE [0, 0, 2, 6, 1, 17, 49, 127]
theorem F19.e18 (k : Nat) : F19.X k F19.c31 (retK Try.prog F19.rs) (F19.x0 k) = (F19.q12 k) := seqE (F19.e16 k) (F19.e17 k)
noncomputable abbrev F19.c34 : Code := cE F19.c30
noncomputable def F19.p13 (k : Nat) (s : Store) : Rz :=
  some (AV.tuple [], s)
noncomputable abbrev F19.q13 (k : Nat) : Kz := fun fr s => F19.p13 k s
theorem F19.e19 (k : Nat) : F19.X k F19.c34 (retK Try.prog F19.rs) (F19.x0 k) = (F19.q13 k) := lE
noncomputable def F19.p14 (k : Nat) (x0 x1 x104 : AV) (s : Store) : Rz :=
  aIf x104 (F19.p12 k x0 x1 s) (F19.p13 k s)
noncomputable abbrev F19.q14 (k : Nat) : Kz := fun fr s => F19.p14 k (fr 0) (fr 1) (fr 104) s
theorem F19.e20 (k : Nat) : F19.X k F19.c30 (retK Try.prog F19.rs) (F19.x0 k) = (F19.q14 k) := condE (F19.e18 k) (F19.e19 k)
noncomputable abbrev F19.c35 : Code := cL F19.c29
noncomputable def F19.p15 (k : Nat) (x0 x1 x8 : AV) (s : Store) : Rz :=
  aBin .eql x8 (AV.int .u8 9) fun v1 => F19.p14 k x0 x1 v1 s
noncomputable abbrev F19.q15 (k : Nat) : Kz := fun fr s => F19.p15 k (fr 0) (fr 1) (fr 8) s
theorem F19.e21 (k : Nat) : F19.X k F19.c35 (F19.q14 k) (F19.x0 k) = (F19.q15 k) := lE
theorem F19.e22 (k : Nat) : F19.X k F19.c29 (retK Try.prog F19.rs) (F19.x0 k) = (F19.q15 k) := seqE (F19.e20 k) (F19.e21 k)
noncomputable def F19.p16 (k : Nat) (x0 x1 x8 x89 : AV) (s : Store) : Rz :=
  aIf x89 (F19.p10 k x0 x1 s) (F19.p15 k x0 x1 x8 s)
noncomputable abbrev F19.q16 (k : Nat) : Kz := fun fr s => F19.p16 k (fr 0) (fr 1) (fr 8) (fr 89) s
theorem F19.e23 (k : Nat) : F19.X k F19.c25 (retK Try.prog F19.rs) (F19.x0 k) = (F19.q16 k) := condE (F19.e15 k) (F19.e22 k)
noncomputable abbrev F19.c36 : Code := cL F19.c24
noncomputable def F19.p17 (k : Nat) (x0 x1 x8 : AV) (s : Store) : Rz :=
  aBin .eql x8 (AV.int .u8 8) fun v1 => F19.p16 k x0 x1 x8 v1 s
noncomputable abbrev F19.q17 (k : Nat) : Kz := fun fr s => F19.p17 k (fr 0) (fr 1) (fr 8) s
theorem F19.e24 (k : Nat) : F19.X k F19.c36 (F19.q16 k) (F19.x0 k) = (F19.q17 k) := lE
theorem F19.e25 (k : Nat) : F19.X k F19.c24 (retK Try.prog F19.rs) (F19.x0 k) = (F19.q17 k) := seqE (F19.e23 k) (F19.e24 k)
noncomputable def F19.p18 (k : Nat) (x0 x1 x8 x54 : AV) (s : Store) : Rz :=
  aIf x54 (F19.p8 k x0 x1 s) (F19.p17 k x0 x1 x8 s)
noncomputable abbrev F19.q18 (k : Nat) : Kz := fun fr s => F19.p18 k (fr 0) (fr 1) (fr 8) (fr 54) s
theorem F19.e26 (k : Nat) : F19.X k F19.c18 (retK Try.prog F19.rs) (F19.x0 k) = (F19.q18 k) := condE (F19.e12 k) (F19.e25 k)
noncomputable abbrev F19.c37 : Code := cL F19.c17
noncomputable def F19.p19 (k : Nat) (x0 x1 x8 : AV) (s : Store) : Rz :=
  aBin .eql x8 (AV.int .u8 6) fun v1 => aIf v1 (F19.p18 k x0 x1 x8 v1 s) (aBin .eql x8 (AV.int .u8 7) fun v2 => F19.p18 k x0 x1 x8 v2 s)
noncomputable abbrev F19.q19 (k : Nat) : Kz := fun fr s => F19.p19 k (fr 0) (fr 1) (fr 8) s
theorem F19.e27 (k : Nat) : F19.X k F19.c37 (F19.q18 k) (F19.x0 k) = (F19.q19 k) := lE
theorem F19.e28 (k : Nat) : F19.X k F19.c17 (retK Try.prog F19.rs) (F19.x0 k) = (F19.q19 k) := seqE (F19.e26 k) (F19.e27 k)
noncomputable def F19.p20 (k : Nat) (x0 x1 x8 x39 : AV) (s : Store) : Rz :=
  aIf x39 (F19.p5 k x0 x1 s) (F19.p19 k x0 x1 x8 s)
noncomputable abbrev F19.q20 (k : Nat) : Kz := fun fr s => F19.p20 k (fr 0) (fr 1) (fr 8) (fr 39) s
theorem F19.e29 (k : Nat) : F19.X k F19.c13 (retK Try.prog F19.rs) (F19.x0 k) = (F19.q20 k) := condE (F19.e7 k) (F19.e28 k)
noncomputable abbrev F19.c38 : Code := cL F19.c12
noncomputable def F19.p21 (k : Nat) (x0 x1 x8 : AV) (s : Store) : Rz :=
  aBin .eql x8 (AV.int .u8 3) fun v1 => F19.p20 k x0 x1 x8 v1 s
noncomputable abbrev F19.q21 (k : Nat) : Kz := fun fr s => F19.p21 k (fr 0) (fr 1) (fr 8) s
theorem F19.e30 (k : Nat) : F19.X k F19.c38 (F19.q20 k) (F19.x0 k) = (F19.q21 k) := lE
theorem F19.e31 (k : Nat) : F19.X k F19.c12 (retK Try.prog F19.rs) (F19.x0 k) = (F19.q21 k) := seqE (F19.e29 k) (F19.e30 k)
noncomputable def F19.p22 (k : Nat) (x0 x1 x8 x27 : AV) (s : Store) : Rz :=
  aIf x27 (F19.p3 k x0 x1 s) (F19.p21 k x0 x1 x8 s)
noncomputable abbrev F19.q22 (k : Nat) : Kz := fun fr s => F19.p22 k (fr 0) (fr 1) (fr 8) (fr 27) s
theorem F19.e32 (k : Nat) : F19.X k F19.c10 (retK Try.prog F19.rs) (F19.x0 k) = (F19.q22 k) := condE (F19.e4 k) (F19.e31 k)
noncomputable abbrev F19.c39 : Code := cL F19.c9
noncomputable def F19.p23 (k : Nat) (x0 x1 x8 : AV) (s : Store) : Rz :=
  aBin .eql x8 (AV.int .u8 2) fun v1 => aIf v1 (F19.p22 k x0 x1 x8 v1 s) (aBin .eql x8 (AV.int .u8 5) fun v2 => aIf v2 (F19.p22 k x0 x1 x8 v2 s) (aBin .eql x8 (AV.int .u8 10) fun v3 => F19.p22 k x0 x1 x8 v3 s))
noncomputable abbrev F19.q23 (k : Nat) : Kz := fun fr s => F19.p23 k (fr 0) (fr 1) (fr 8) s
theorem F19.e33 (k : Nat) : F19.X k F19.c39 (F19.q22 k) (F19.x0 k) = (F19.q23 k) := lE
theorem F19.e34 (k : Nat) : F19.X k F19.c9 (retK Try.prog F19.rs) (F19.x0 k) = (F19.q23 k) := seqE (F19.e32 k) (F19.e33 k)
noncomputable def F19.p24 (k : Nat) (x0 x1 x8 x22 : AV) (s : Store) : Rz :=
  aIf x22 (F19.p2 k x0 x1 s) (F19.p23 k x0 x1 x8 s)
noncomputable abbrev F19.q24 (k : Nat) : Kz := fun fr s => F19.p24 k (fr 0) (fr 1) (fr 8) (fr 22) s
theorem F19.e35 (k : Nat) : F19.X k F19.c7 (retK Try.prog F19.rs) (F19.x0 k) = (F19.q24 k) := condE (F19.e3 k) (F19.e34 k)
noncomputable abbrev F19.c40 : Code := cL F19.c6
noncomputable def F19.p25 (k : Nat) (x0 x1 x8 : AV) (s : Store) : Rz :=
  aBin .eql x8 (AV.int .u8 4) fun v1 => F19.p24 k x0 x1 x8 v1 s
noncomputable abbrev F19.q25 (k : Nat) : Kz := fun fr s => F19.p25 k (fr 0) (fr 1) (fr 8) s
theorem F19.e36 (k : Nat) : F19.X k F19.c40 (F19.q24 k) (F19.x0 k) = (F19.q25 k) := lE
theorem F19.e37 (k : Nat) : F19.X k F19.c6 (retK Try.prog F19.rs) (F19.x0 k) = (F19.q25 k) := seqE (F19.e35 k) (F19.e36 k)
noncomputable def F19.p26 (k : Nat) (x0 x1 x8 x9 : AV) (s : Store) : Rz :=
  aIf x9 (F19.p1 k x0 x1 s) (F19.p25 k x0 x1 x8 s)
noncomputable abbrev F19.q26 (k : Nat) : Kz := fun fr s => F19.p26 k (fr 0) (fr 1) (fr 8) (fr 9) s
theorem F19.e38 (k : Nat) : F19.X k F19.c2 (retK Try.prog F19.rs) (F19.x0 k) = (F19.q26 k) := condE (F19.e2 k) (F19.e37 k)
noncomputable abbrev F19.c41 : Code := cL F19.c1
noncomputable def F19.p27 (k : Nat) (x0 x1 x8 : AV) (s : Store) : Rz :=
  aBin .eql x8 (AV.int .u8 1) fun v1 => F19.p26 k x0 x1 x8 v1 s
noncomputable abbrev F19.q27 (k : Nat) : Kz := fun fr s => F19.p27 k (fr 0) (fr 1) (fr 8) s
theorem F19.e39 (k : Nat) : F19.X k F19.c41 (F19.q26 k) (F19.x0 k) = (F19.q27 k) := lE
theorem F19.e40 (k : Nat) : F19.X k F19.c1 (retK Try.prog F19.rs) (F19.x0 k) = (F19.q27 k) := seqE (F19.e38 k) (F19.e39 k)
theorem F19.e41 (k : Nat) : F19.X k F19.c0 (retK Try.prog F19.rs) xN = (F19.q27 k) := blockE (i := 0) (F19.e40 k)
noncomputable abbrev F19.c42 : Code := cL F19.code
noncomputable def F19.p28 (k : Nat) (x0 x1 : AV) (s : Store) : Rz :=
  aNilCheck x0 fun v1 => aFieldAddr 0 v1 fun v2 => aFieldAddr 0 v2 fun v3 => aLoad1 v3 s fun v4 => F19.p27 k x0 x1 v4 s
noncomputable abbrev F19.q28 (k : Nat) : Kz := fun fr s => F19.p28 k (fr 0) (fr 1) s
theorem F19.e42 (k : Nat) : F19.X k F19.c42 (F19.q27 k) xN = (F19.q28 k) := lE
theorem F19.e43 (k : Nat) : F19.X k F19.code (retK Try.prog F19.rs) xN = (F19.q28 k) := seqE (F19.e41 k) (F19.e42 k)
noncomputable def F19.f (k : Nat) (a0 a1 : AV) (s : Store) : Rz := F19.p28 k a0 a1 s
theorem F19.eq (k : Nat) (a0 a1 : AV) (s : Store) : rn (k + 1) 19 [a0, a1] s = F19.f k a0 a1 s :=
  (rn_eq Try.func19 (by kernel_rfl) (by kernel_rfl) (by kernel_rfl) k s (by kernel_rfl)).trans (congrFun (congrFun (F19.e43 k) (frOf [a0, a1])) s)

/-! unison/wire.bare: function 32 -/
noncomputable def F32.code : Code := bodyOf Try.f32
noncomputable def F32.rs : List ResultVar := Try.f32.results.toList
noncomputable abbrev F32.X (k : Nat) (c : Code) (n : Kz) (x : Nat → Kz) : Kz := exec Try.prog (rn k) k 77 c ⟨n, x, retK Try.prog F32.rs⟩
noncomputable abbrev F32.c0 : Code := cR F32.code
noncomputable abbrev F32.c1 : Code := cR F32.c0
noncomputable abbrev F32.c2 : Code := cR F32.c1
noncomputable def F32.p0 (k : Nat) (x1 : AV) (s : Store) : Rz :=
  aFieldAddr 3 x1 fun v1 => aLoadN 2 v1 s fun v2 => aBuild [] [AV.int .u8 0, AV.int .u64 0] fun c3 => aEq (.struct [.int, .int]) v2 (AV.agg c3) fun b4 => (aGuard (AV.bool b4) true (aFieldAddr 5 x1 fun v6 => some (v6, s)) (some (AV.tuple [], s))).bind fun g5 => (aGuard (AV.bool b4) true (aLoad1 g5.1 g5.2 fun v8 => some (v8, g5.2)) (some (AV.tuple [], g5.2))).bind fun g7 => (aGuard (AV.bool b4) true (aBin .eql g7.1 (AV.int .u64 0) fun v10 => some (v10, g7.2)) (some (AV.tuple [], g7.2))).bind fun g9 => aPick (AV.bool b4) g9.1 (AV.bool false) fun v11 => (aGuard v11 true (aFieldAddr 6 x1 fun v13 => some (v13, g9.2)) (some (AV.tuple [], g9.2))).bind fun g12 => (aGuard v11 true (aLoad1 g12.1 g12.2 fun v15 => some (v15, g12.2)) (some (AV.tuple [], g12.2))).bind fun g14 => (aGuard v11 true (aBin .eql g14.1 (AV.int .u32 0) fun v17 => some (v17, g14.2)) (some (AV.tuple [], g14.2))).bind fun g16 => aPick v11 g16.1 (AV.bool false) fun v18 => (aGuard v18 true (aFieldAddr 7 x1 fun v20 => some (v20, g16.2)) (some (AV.tuple [], g16.2))).bind fun g19 => (aGuard v18 true (aLoad1 g19.1 g19.2 fun v22 => some (v22, g19.2)) (some (AV.tuple [], g19.2))).bind fun g21 => (aGuard v18 true (aBin .eql g21.1 (AV.int .u32 0) fun v24 => some (v24, g21.2)) (some (AV.tuple [], g21.2))).bind fun g23 => aPick v18 g23.1 (AV.bool false) fun v25 => (aGuard v25 true (aFieldAddr 8 x1 fun v27 => some (v27, g23.2)) (some (AV.tuple [], g23.2))).bind fun g26 => (aGuard v25 true (aLoad1 g26.1 g26.2 fun v29 => some (v29, g26.2)) (some (AV.tuple [], g26.2))).bind fun g28 => (aGuard v25 true (aBin .eql g28.1 (AV.int .u32 0) fun v31 => some (v31, g28.2)) (some (AV.tuple [], g28.2))).bind fun g30 => aPick v25 g30.1 (AV.bool false) fun v32 => (aGuard v32 true (aFieldAddr 9 x1 fun v34 => some (v34, g30.2)) (some (AV.tuple [], g30.2))).bind fun g33 => (aGuard v32 true (aLoad1 g33.1 g33.2 fun v36 => some (v36, g33.2)) (some (AV.tuple [], g33.2))).bind fun g35 => (aGuard v32 true (aBin .eql g35.1 (AV.int .u64 0) fun v38 => some (v38, g35.2)) (some (AV.tuple [], g35.2))).bind fun g37 => aPick v32 g37.1 (AV.bool false) fun v39 => (aGuard v39 true (aFieldAddr 10 x1 fun v41 => some (v41, g37.2)) (some (AV.tuple [], g37.2))).bind fun g40 => (aGuard v39 true (aLoad1 g40.1 g40.2 fun v43 => some (v43, g40.2)) (some (AV.tuple [], g40.2))).bind fun g42 => (aGuard v39 true (aBin .eql g42.1 (AV.int .u64 0) fun v45 => some (v45, g42.2)) (some (AV.tuple [], g42.2))).bind fun g44 => aPick v39 g44.1 (AV.bool false) fun v46 => (aGuard v46 true (aFieldAddr 11 x1 fun v48 => some (v48, g44.2)) (some (AV.tuple [], g44.2))).bind fun g47 => (aGuard v46 true (aLoad1 g47.1 g47.2 fun v50 => some (v50, g47.2)) (some (AV.tuple [], g47.2))).bind fun g49 => (aGuard v46 true (aLen g49.1 fun v52 => some (v52, g49.2)) (some (AV.tuple [], g49.2))).bind fun g51 => (aGuard v46 true (aFieldAddr 12 x1 fun v54 => some (v54, g51.2)) (some (AV.tuple [], g51.2))).bind fun g53 => (aGuard v46 true (aLoad1 g53.1 g53.2 fun v56 => some (v56, g53.2)) (some (AV.tuple [], g53.2))).bind fun g55 => (aGuard v46 true (aLen g55.1 fun v58 => some (v58, g55.2)) (some (AV.tuple [], g55.2))).bind fun g57 => (aGuard v46 true (aBin .add g51.1 g57.1 fun v60 => some (v60, g57.2)) (some (AV.tuple [], g57.2))).bind fun g59 => (aGuard v46 true (aFieldAddr 13 x1 fun v62 => some (v62, g59.2)) (some (AV.tuple [], g59.2))).bind fun g61 => (aGuard v46 true (aLoad1 g61.1 g61.2 fun v64 => some (v64, g61.2)) (some (AV.tuple [], g61.2))).bind fun g63 => (aGuard v46 true (aLen g63.1 fun v66 => some (v66, g63.2)) (some (AV.tuple [], g63.2))).bind fun g65 => (aGuard v46 true (aBin .add g59.1 g65.1 fun v68 => some (v68, g65.2)) (some (AV.tuple [], g65.2))).bind fun g67 => (aGuard v46 true (aFieldAddr 14 x1 fun v70 => some (v70, g67.2)) (some (AV.tuple [], g67.2))).bind fun g69 => (aGuard v46 true (aLoad1 g69.1 g69.2 fun v72 => some (v72, g69.2)) (some (AV.tuple [], g69.2))).bind fun g71 => (aGuard v46 true (aLen g71.1 fun v74 => some (v74, g71.2)) (some (AV.tuple [], g71.2))).bind fun g73 => (aGuard v46 true (aBin .add g67.1 g73.1 fun v76 => some (v76, g73.2)) (some (AV.tuple [], g73.2))).bind fun g75 => (aGuard v46 true (aFieldAddr 15 x1 fun v78 => some (v78, g75.2)) (some (AV.tuple [], g75.2))).bind fun g77 => (aGuard v46 true (aLoad1 g77.1 g77.2 fun v80 => some (v80, g77.2)) (some (AV.tuple [], g77.2))).bind fun g79 => (aGuard v46 true (aLen g79.1 fun v82 => some (v82, g79.2)) (some (AV.tuple [], g79.2))).bind fun g81 => (aGuard v46 true (aBin .add g75.1 g81.1 fun v84 => some (v84, g81.2)) (some (AV.tuple [], g81.2))).bind fun g83 => (aGuard v46 true (aBin .eql g83.1 (AV.int .i64 0) fun v86 => some (v86, g83.2)) (some (AV.tuple [], g83.2))).bind fun g85 => aPick v46 g85.1 (AV.bool false) fun v87 => some (v87, g85.2)
noncomputable abbrev F32.q0 (k : Nat) : Kz := fun fr s => F32.p0 k (fr 1) s
theorem F32.e0 (k : Nat) : F32.X k F32.c2 (retK Try.prog F32.rs) xN = (F32.q0 k) := lE
noncomputable abbrev F32.c3 : Code := cL F32.c1
noncomputable abbrev F32.c4 : Code := cR F32.c3
noncomputable abbrev F32.x0 (k : Nat) : Nat → Kz := xB 0 (F32.q0 k) xN
noncomputable abbrev F32.c5 : Code := cB F32.c4
noncomputable abbrev F32.c6 : Code := cR F32.c5
noncomputable def F32.p1 (k : Nat) (x1 x8 x9 : AV) (s : Store) : Rz :=
  aIf x9 (aFieldAddr 11 x1 fun v1 => aStore 1 v1 AV.nilsl s fun s2 => F32.p0 k x1 s2) (aBin .eql x8 (AV.int .u8 7) fun v3 => aIf v3 (aFieldAddr 11 x1 fun v4 => aStore 1 v4 AV.nilsl s fun s5 => aFieldAddr 12 x1 fun v6 => aStore 1 v6 AV.nilsl s5 fun s7 => F32.p0 k x1 s7) (aBin .eql x8 (AV.int .u8 9) fun v8 => aIf v8 (aFieldAddr 13 x1 fun v9 => aStore 1 v9 AV.nilsl s fun s10 => aFieldAddr 14 x1 fun v11 => aStore 1 v11 AV.nilsl s10 fun s12 => F32.p0 k x1 s12) (F32.p0 k x1 s)))
noncomputable abbrev F32.q1 (k : Nat) : Kz := fun fr s => F32.p1 k (fr 1) (fr 8) (fr 9) s
theorem F32.e1 (k : Nat) : F32.X k F32.c6 (F32.q0 k) (F32.x0 k) = (F32.q1 k) := lE
noncomputable abbrev F32.c7 : Code := cL F32.c5
noncomputable def F32.p2 (k : Nat) (x1 x8 : AV) (s : Store) : Rz :=
  aBin .eql x8 (AV.int .u8 6) fun v1 => aIf v1 (F32.p1 k x1 x8 v1 s) (aBin .eql x8 (AV.int .u8 8) fun v2 => F32.p1 k x1 x8 v2 s)
noncomputable abbrev F32.q2 (k : Nat) : Kz := fun fr s => F32.p2 k (fr 1) (fr 8) s
theorem F32.e2 (k : Nat) : F32.X k F32.c7 (F32.q1 k) (F32.x0 k) = (F32.q2 k) := lE
theorem F32.e3 (k : Nat) : F32.X k F32.c5 (F32.q0 k) (F32.x0 k) = (F32.q2 k) := seqE (F32.e1 k) (F32.e2 k)
theorem F32.e4 (k : Nat) : F32.X k F32.c4 (F32.q0 k) xN = (F32.q2 k) := blockE (i := 0) (F32.e3 k)
noncomputable abbrev F32.c8 : Code := cL F32.c3
noncomputable def F32.p3 (k : Nat) (x1 : AV) (s : Store) : Rz :=
  aFieldAddr 0 x1 fun v1 => aFieldAddr 0 v1 fun v2 => aLoad1 v2 s fun v3 => F32.p2 k x1 v3 s
noncomputable abbrev F32.q3 (k : Nat) : Kz := fun fr s => F32.p3 k (fr 1) s
theorem F32.e5 (k : Nat) : F32.X k F32.c8 (F32.q2 k) xN = (F32.q3 k) := lE
theorem F32.e6 (k : Nat) : F32.X k F32.c3 (F32.q0 k) xN = (F32.q3 k) := seqE (F32.e4 k) (F32.e5 k)
theorem F32.e7 (k : Nat) : F32.X k F32.c1 (retK Try.prog F32.rs) xN = (F32.q3 k) := seqE (F32.e0 k) (F32.e6 k)
noncomputable abbrev F32.c9 : Code := cL F32.c0
noncomputable def F32.p4 (k : Nat) (x1 : AV) (s : Store) : Rz :=
  aBuild [] [] fun c1 => (rn k 19 [x1, (AV.iface 107 (AV.agg c1))] s).bind fun q2 => F32.p3 k x1 q2.2
noncomputable abbrev F32.q4 (k : Nat) : Kz := fun fr s => F32.p4 k (fr 1) s
theorem F32.e8 (k : Nat) : F32.X k F32.c9 (F32.q3 k) xN = (F32.q4 k) := lE
theorem F32.e9 (k : Nat) : F32.X k F32.c0 (retK Try.prog F32.rs) xN = (F32.q4 k) := seqE (F32.e7 k) (F32.e8 k)
noncomputable abbrev F32.c10 : Code := cL F32.code
noncomputable def F32.p5 (k : Nat) (x0 : AV) (s : Store) : Rz :=
  aCells x0 fun c1 => aNew c1 s fun v2 s3 => F32.p4 k v2 s3
noncomputable abbrev F32.q5 (k : Nat) : Kz := fun fr s => F32.p5 k (fr 0) s
theorem F32.e10 (k : Nat) : F32.X k F32.c10 (F32.q4 k) xN = (F32.q5 k) := lE
theorem F32.e11 (k : Nat) : F32.X k F32.code (retK Try.prog F32.rs) xN = (F32.q5 k) := seqE (F32.e9 k) (F32.e10 k)
noncomputable def F32.f (k : Nat) (a0 : AV) (s : Store) : Rz := F32.p5 k a0 s
theorem F32.eq (k : Nat) (a0 : AV) (s : Store) : rn (k + 1) 32 [a0] s = F32.f k a0 s :=
  (rn_eq Try.func32 (by kernel_rfl) (by kernel_rfl) (by kernel_rfl) k s (by kernel_rfl)).trans (congrFun (congrFun (F32.e11 k) (frOf [a0])) s)

/-! unison/wire.shaped: function 33 -/
noncomputable def F33.code : Code := bodyOf Try.f33
noncomputable def F33.rs : List ResultVar := Try.f33.results.toList
noncomputable abbrev F33.X (k : Nat) (c : Code) (n : Kz) (x : Nat → Kz) : Kz := exec Try.prog (rn k) k 45 c ⟨n, x, retK Try.prog F33.rs⟩
noncomputable abbrev F33.c0 : Code := cR F33.code
noncomputable abbrev F33.c1 : Code := cR F33.c0
noncomputable def F33.p0 (k : Nat) (s : Store) : Rz :=
  some ((AV.bool true), s)
noncomputable abbrev F33.q0 (k : Nat) : Kz := fun fr s => F33.p0 k s
theorem F33.e0 (k : Nat) : F33.X k F33.c1 (retK Try.prog F33.rs) xN = (F33.q0 k) := lE
noncomputable abbrev F33.c2 : Code := cL F33.c0
noncomputable abbrev F33.c3 : Code := cR F33.c2
noncomputable abbrev F33.x0 (k : Nat) : Nat → Kz := xB 0 (F33.q0 k) xN
noncomputable abbrev F33.c4 : Code := cB F33.c3
noncomputable abbrev F33.c5 : Code := cR F33.c4
noncomputable def F33.p1 (k : Nat) (x1 x5 x6 : AV) (s : Store) : Rz :=
  aIf x6 (aFieldAddr 3 x1 fun v1 => aLoadN 2 v1 s fun v2 => (rn k 56 [v2, (AV.int .i64 64)] s).bind fun q3 => (aGuard q3.1 true (aFieldAddr 6 x1 fun v5 => some (v5, q3.2)) (some (AV.tuple [], q3.2))).bind fun g4 => (aGuard q3.1 true (aLoad1 g4.1 g4.2 fun v7 => some (v7, g4.2)) (some (AV.tuple [], g4.2))).bind fun g6 => (aGuard q3.1 true (aFieldAddr 7 x1 fun v9 => some (v9, g6.2)) (some (AV.tuple [], g6.2))).bind fun g8 => (aGuard q3.1 true (aLoad1 g8.1 g8.2 fun v11 => some (v11, g8.2)) (some (AV.tuple [], g8.2))).bind fun g10 => (aGuard q3.1 true (aBin .lss g6.1 g10.1 fun v13 => some (v13, g10.2)) (some (AV.tuple [], g10.2))).bind fun g12 => aPick q3.1 g12.1 (AV.bool false) fun v14 => (aGuard v14 true (aFieldAddr 7 x1 fun v16 => some (v16, g12.2)) (some (AV.tuple [], g12.2))).bind fun g15 => (aGuard v14 true (aLoad1 g15.1 g15.2 fun v18 => some (v18, g15.2)) (some (AV.tuple [], g15.2))).bind fun g17 => (aGuard v14 true (aBin .leq g17.1 (AV.int .u32 1048576) fun v20 => some (v20, g17.2)) (some (AV.tuple [], g17.2))).bind fun g19 => aPick v14 g19.1 (AV.bool false) fun v21 => (aGuard v21 true (aFieldAddr 8 x1 fun v23 => some (v23, g19.2)) (some (AV.tuple [], g19.2))).bind fun g22 => (aGuard v21 true (aLoad1 g22.1 g22.2 fun v25 => some (v25, g22.2)) (some (AV.tuple [], g22.2))).bind fun g24 => (aGuard v21 true (aBin .leq g24.1 (AV.int .u32 1048576) fun v27 => some (v27, g24.2)) (some (AV.tuple [], g24.2))).bind fun g26 => aPick v21 g26.1 (AV.bool false) fun v28 => (aGuard v28 true (aFieldAddr 15 x1 fun v30 => some (v30, g26.2)) (some (AV.tuple [], g26.2))).bind fun g29 => (aGuard v28 true (aLoad1 g29.1 g29.2 fun v32 => some (v32, g29.2)) (some (AV.tuple [], g29.2))).bind fun g31 => (aGuard v28 true (aLen g31.1 fun v34 => some (v34, g31.2)) (some (AV.tuple [], g31.2))).bind fun g33 => (aGuard v28 true (aBin .leq g33.1 (AV.int .i64 65536) fun v36 => some (v36, g33.2)) (some (AV.tuple [], g33.2))).bind fun g35 => aPick v28 g35.1 (AV.bool false) fun v37 => some (v37, g35.2)) (aBin .eql x5 (AV.int .u8 3) fun v38 => aIf v38 (aFieldAddr 3 x1 fun v39 => aLoadN 2 v39 s fun v40 => (rn k 56 [v40, (AV.int .i64 64)] s).bind fun q41 => (aGuard q41.1 true (aFieldAddr 6 x1 fun v43 => some (v43, q41.2)) (some (AV.tuple [], q41.2))).bind fun g42 => (aGuard q41.1 true (aLoad1 g42.1 g42.2 fun v45 => some (v45, g42.2)) (some (AV.tuple [], g42.2))).bind fun g44 => (aGuard q41.1 true (aBin .lss g44.1 (AV.int .u32 1048576) fun v47 => some (v47, g44.2)) (some (AV.tuple [], g44.2))).bind fun g46 => aPick q41.1 g46.1 (AV.bool false) fun v48 => some (v48, g46.2)) (F33.p0 k s))
noncomputable abbrev F33.q1 (k : Nat) : Kz := fun fr s => F33.p1 k (fr 1) (fr 5) (fr 6) s
theorem F33.e1 (k : Nat) : F33.X k F33.c5 (F33.q0 k) (F33.x0 k) = (F33.q1 k) := lE
noncomputable abbrev F33.c6 : Code := cL F33.c4
noncomputable def F33.p2 (k : Nat) (x1 x5 : AV) (s : Store) : Rz :=
  aBin .eql x5 (AV.int .u8 1) fun v1 => aIf v1 (F33.p1 k x1 x5 v1 s) (aBin .eql x5 (AV.int .u8 4) fun v2 => F33.p1 k x1 x5 v2 s)
noncomputable abbrev F33.q2 (k : Nat) : Kz := fun fr s => F33.p2 k (fr 1) (fr 5) s
theorem F33.e2 (k : Nat) : F33.X k F33.c6 (F33.q1 k) (F33.x0 k) = (F33.q2 k) := lE
theorem F33.e3 (k : Nat) : F33.X k F33.c4 (F33.q0 k) (F33.x0 k) = (F33.q2 k) := seqE (F33.e1 k) (F33.e2 k)
theorem F33.e4 (k : Nat) : F33.X k F33.c3 (F33.q0 k) xN = (F33.q2 k) := blockE (i := 0) (F33.e3 k)
noncomputable abbrev F33.c7 : Code := cL F33.c2
noncomputable def F33.p3 (k : Nat) (x1 : AV) (s : Store) : Rz :=
  aFieldAddr 0 x1 fun v1 => aFieldAddr 0 v1 fun v2 => aLoad1 v2 s fun v3 => F33.p2 k x1 v3 s
noncomputable abbrev F33.q3 (k : Nat) : Kz := fun fr s => F33.p3 k (fr 1) s
theorem F33.e5 (k : Nat) : F33.X k F33.c7 (F33.q2 k) xN = (F33.q3 k) := lE
theorem F33.e6 (k : Nat) : F33.X k F33.c2 (F33.q0 k) xN = (F33.q3 k) := seqE (F33.e4 k) (F33.e5 k)
theorem F33.e7 (k : Nat) : F33.X k F33.c0 (retK Try.prog F33.rs) xN = (F33.q3 k) := seqE (F33.e0 k) (F33.e6 k)
noncomputable abbrev F33.c8 : Code := cL F33.code
noncomputable def F33.p4 (k : Nat) (x0 : AV) (s : Store) : Rz :=
  aCells x0 fun c1 => aNew c1 s fun v2 s3 => F33.p3 k v2 s3
noncomputable abbrev F33.q4 (k : Nat) : Kz := fun fr s => F33.p4 k (fr 0) s
theorem F33.e8 (k : Nat) : F33.X k F33.c8 (F33.q3 k) xN = (F33.q4 k) := lE
theorem F33.e9 (k : Nat) : F33.X k F33.code (retK Try.prog F33.rs) xN = (F33.q4 k) := seqE (F33.e7 k) (F33.e8 k)
noncomputable def F33.f (k : Nat) (a0 : AV) (s : Store) : Rz := F33.p4 k a0 s
theorem F33.eq (k : Nat) (a0 : AV) (s : Store) : rn (k + 1) 33 [a0] s = F33.f k a0 s :=
  (rn_eq Try.func33 (by kernel_rfl) (by kernel_rfl) (by kernel_rfl) k s (by kernel_rfl)).trans (congrFun (congrFun (F33.e9 k) (frOf [a0])) s)

/-! unison/wire.rows: function 34 -/
noncomputable def F34.code : Code := bodyOf Try.f34
noncomputable def F34.rs : List ResultVar := Try.f34.results.toList
noncomputable abbrev F34.X (k : Nat) (c : Code) (n : Kz) (x : Nat → Kz) : Kz := exec Try.prog (rn k) k 15 c ⟨n, x, retK Try.prog F34.rs⟩
noncomputable def F34.p0 (k : Nat) (x0 : AV) (s : Store) : Rz :=
  aLen x0 fun v1 => aBin .leq v1 (AV.int .i64 64) fun v2 => (aGuard v2 true (some (x0, s)) (some (AV.tuple [], s))).bind fun g3 => (aGuard v2 true ((rn k 57 [g3.1] g3.2).bind fun q5 => some (q5.1, q5.2)) (some (AV.tuple [], g3.2))).bind fun g4 => aPick v2 g4.1 (AV.bool false) fun v6 => (aGuard v6 true (some (x0, g4.2)) (some (AV.tuple [], g4.2))).bind fun g7 => (aGuard v6 true ((rn k 58 [g7.1] g7.2).bind fun q9 => some (q9.1, q9.2)) (some (AV.tuple [], g7.2))).bind fun g8 => (aGuard v6 true (aBin .leq g8.1 (AV.int .u64 4096) fun v11 => some (v11, g8.2)) (some (AV.tuple [], g8.2))).bind fun g10 => aPick v6 g10.1 (AV.bool false) fun v12 => some (v12, g10.2)
noncomputable abbrev F34.q0 (k : Nat) : Kz := fun fr s => F34.p0 k (fr 0) s
theorem F34.e0 (k : Nat) : F34.X k F34.code (retK Try.prog F34.rs) xN = (F34.q0 k) := lE
noncomputable def F34.f (k : Nat) (a0 : AV) (s : Store) : Rz := F34.p0 k a0 s
theorem F34.eq (k : Nat) (a0 : AV) (s : Store) : rn (k + 1) 34 [a0] s = F34.f k a0 s :=
  (rn_eq Try.func34 (by kernel_rfl) (by kernel_rfl) (by kernel_rfl) k s (by kernel_rfl)).trans (congrFun (congrFun (F34.e0 k) (frOf [a0])) s)

/-! unison/wire.counts: function 35 -/
noncomputable def F35.code : Code := bodyOf Try.f35
noncomputable def F35.rs : List ResultVar := Try.f35.results.toList
noncomputable abbrev F35.X (k : Nat) (c : Code) (n : Kz) (x : Nat → Kz) : Kz := exec Try.prog (rn k) k 17 c ⟨n, x, retK Try.prog F35.rs⟩
noncomputable abbrev F35.c0 : Code := cR F35.code
noncomputable abbrev F35.c1 : Code := cR F35.c0
noncomputable def F35.p0 (k : Nat) (x0 : AV) (s : Store) : Rz :=
  aLen x0 fun v1 => aBin .leq v1 (AV.int .i64 64) fun v2 => some (v2, s)
noncomputable abbrev F35.q0 (k : Nat) : Kz := fun fr s => F35.p0 k (fr 0) s
theorem F35.e0 (k : Nat) : F35.X k F35.c1 (retK Try.prog F35.rs) xN = (F35.q0 k) := lE
noncomputable abbrev F35.c2 : Code := cL F35.c0
noncomputable abbrev F35.c3 : Code := cR F35.c2
noncomputable abbrev F35.x0 (k : Nat) : Nat → Kz := xB 0 (F35.q0 k) xN
noncomputable abbrev F35.c4 : Code := cB F35.c3
noncomputable abbrev F35.c5 : Code := cB F35.c4
noncomputable abbrev F35.c6 : Code := cR F35.c5
noncomputable abbrev F35.c7 : Code := cR F35.c6
noncomputable abbrev F35.c8 : Code := cR F35.c7
noncomputable def F35.p1 (k : Nat) (R0 : Ar4) (x0 x5 x6 x7 : AV) (s : Store) : Rz :=
  aBin .add x7 (AV.int .i64 1) fun v1 => R0 x0 x5 x6 v1 s
noncomputable abbrev F35.q1 (k : Nat) (R0 : Ar4) : Kz := fun fr s => F35.p1 k R0 (fr 0) (fr 5) (fr 6) (fr 7) s
theorem F35.e1 (k : Nat) (R0 : Ar4) : F35.X k F35.c8 (fun fr s => R0 (fr 0) (fr 5) (fr 6) (fr 7) s) (F35.x0 k) = (F35.q1 k R0) := lE
noncomputable abbrev F35.c9 : Code := cL F35.c7
noncomputable abbrev F35.x1 (k : Nat) (R0 : Ar4) : Nat → Kz := xB 1 (F35.q1 k R0) (F35.x0 k)
noncomputable abbrev F35.c10 : Code := cB F35.c9
noncomputable def F35.p2 (k : Nat) (R0 : Ar4) (x0 x5 x6 x7 : AV) (s : Store) : Rz :=
  aIndexSl 1 x5 x7 fun v1 => aLoad1 v1 s fun v2 => aBin .gtr v2 (AV.int .u64 4611686018427387904) fun v3 => aIf v3 (some ((AV.bool false), s)) (F35.p1 k R0 x0 x5 x6 x7 s)
noncomputable abbrev F35.q2 (k : Nat) (R0 : Ar4) : Kz := fun fr s => F35.p2 k R0 (fr 0) (fr 5) (fr 6) (fr 7) s
theorem F35.e2 (k : Nat) (R0 : Ar4) : F35.X k F35.c10 (F35.q1 k R0) (F35.x1 k R0) = (F35.q2 k R0) := lE
theorem F35.e3 (k : Nat) (R0 : Ar4) : F35.X k F35.c9 (F35.q1 k R0) (F35.x0 k) = (F35.q2 k R0) := blockE (i := 1) (F35.e2 k R0)
theorem F35.e4 (k : Nat) (R0 : Ar4) : F35.X k F35.c7 (fun fr s => R0 (fr 0) (fr 5) (fr 6) (fr 7) s) (F35.x0 k) = (F35.q2 k R0) := seqE (F35.e1 k R0) (F35.e3 k R0)
noncomputable abbrev F35.c11 : Code := cL F35.c6
noncomputable def F35.p3 (k : Nat) (R0 : Ar4) (x0 x5 x6 x7 x8 : AV) (s : Store) : Rz :=
  aIf x8 (F35.p2 k R0 x0 x5 x6 x7 s) (F35.p0 k x0 s)
noncomputable abbrev F35.q3 (k : Nat) (R0 : Ar4) : Kz := fun fr s => F35.p3 k R0 (fr 0) (fr 5) (fr 6) (fr 7) (fr 8) s
theorem F35.e5 (k : Nat) (R0 : Ar4) : F35.X k F35.c11 (F35.q2 k R0) (F35.x0 k) = (F35.q3 k R0) := lE
theorem F35.e6 (k : Nat) (R0 : Ar4) : F35.X k F35.c6 (fun fr s => R0 (fr 0) (fr 5) (fr 6) (fr 7) s) (F35.x0 k) = (F35.q3 k R0) := seqE (F35.e4 k R0) (F35.e5 k R0)
noncomputable abbrev F35.c12 : Code := cL F35.c5
noncomputable def F35.p4 (k : Nat) (R0 : Ar4) (x0 x5 x6 x7 : AV) (s : Store) : Rz :=
  aBin .lss x7 x6 fun v1 => F35.p3 k R0 x0 x5 x6 x7 v1 s
noncomputable abbrev F35.q4 (k : Nat) (R0 : Ar4) : Kz := fun fr s => F35.p4 k R0 (fr 0) (fr 5) (fr 6) (fr 7) s
theorem F35.e7 (k : Nat) (R0 : Ar4) : F35.X k F35.c12 (F35.q3 k R0) (F35.x0 k) = (F35.q4 k R0) := lE
theorem F35.e8 (k : Nat) (R0 : Ar4) : F35.X k F35.c5 (fun fr s => R0 (fr 0) (fr 5) (fr 6) (fr 7) s) (F35.x0 k) = (F35.q4 k R0) := seqE (F35.e6 k R0) (F35.e7 k R0)
noncomputable def F35.l0 (k : Nat) : Nat → Ar4 := iterF (fun _ _ _ _ _ => none) (fun R0 x0 x5 x6 x7 s => F35.p4 k R0 x0 x5 x6 x7 s)
theorem F35.e9 (k : Nat) : F35.X k F35.c4 (F35.q0 k) (F35.x0 k) = (fun fr s => F35.l0 k k (fr 0) (fr 5) (fr 6) (fr 7) s) := loopE (fun R0 : Ar4 => (fun fr s => R0 (fr 0) (fr 5) (fr 6) (fr 7) s)) (z := (fun _ _ _ _ _ => none)) (B := (fun R0 x0 x5 x6 x7 s => F35.p4 k R0 x0 x5 x6 x7 s)) rfl (fun R0 => F35.e8 k R0)
theorem F35.e10 (k : Nat) : F35.X k F35.c3 (F35.q0 k) xN = (fun fr s => F35.l0 k k (fr 0) (fr 5) (fr 6) (fr 7) s) := blockE (i := 0) (F35.e9 k)
noncomputable abbrev F35.c13 : Code := cL F35.c2
noncomputable def F35.p5 (k : Nat) (x0 : AV) (s : Store) : Rz :=
  aLen x0 fun v1 => F35.l0 k k x0 x0 v1 (AV.int .i64 0) s
noncomputable abbrev F35.q5 (k : Nat) : Kz := fun fr s => F35.p5 k (fr 0) s
theorem F35.e11 (k : Nat) : F35.X k F35.c13 (fun fr s => F35.l0 k k (fr 0) (fr 5) (fr 6) (fr 7) s) xN = (F35.q5 k) := lE
theorem F35.e12 (k : Nat) : F35.X k F35.c2 (F35.q0 k) xN = (F35.q5 k) := seqE (F35.e10 k) (F35.e11 k)
theorem F35.e13 (k : Nat) : F35.X k F35.c0 (retK Try.prog F35.rs) xN = (F35.q5 k) := seqE (F35.e0 k) (F35.e12 k)
noncomputable abbrev F35.c14 : Code := cL F35.code
noncomputable def F35.p6 (k : Nat) (x0 : AV) (s : Store) : Rz :=
  F35.p5 k x0 s
noncomputable abbrev F35.q6 (k : Nat) : Kz := fun fr s => F35.p6 k (fr 0) s
theorem F35.e14 (k : Nat) : F35.X k F35.c14 (F35.q5 k) xN = (F35.q6 k) := lE
theorem F35.e15 (k : Nat) : F35.X k F35.code (retK Try.prog F35.rs) xN = (F35.q6 k) := seqE (F35.e13 k) (F35.e14 k)
noncomputable def F35.f (k : Nat) (a0 : AV) (s : Store) : Rz := F35.p6 k a0 s
theorem F35.eq (k : Nat) (a0 : AV) (s : Store) : rn (k + 1) 35 [a0] s = F35.f k a0 s :=
  (rn_eq Try.func35 (by kernel_rfl) (by kernel_rfl) (by kernel_rfl) k s (by kernel_rfl)).trans (congrFun (congrFun (F35.e15 k) (frOf [a0])) s)

/-! unison/wire.May: function 14 -/
noncomputable def F14.code : Code := bodyOf Try.f14
noncomputable def F14.rs : List ResultVar := Try.f14.results.toList
noncomputable abbrev F14.X (k : Nat) (c : Code) (n : Kz) (x : Nat → Kz) : Kz := exec Try.prog (rn k) k 98 c ⟨n, x, retK Try.prog F14.rs⟩
noncomputable abbrev F14.c0 : Code := cR F14.code
noncomputable abbrev F14.c1 : Code := cR F14.c0
noncomputable def F14.p0 (k : Nat) (x1 : AV) (s : Store) : Rz :=
  aFieldAddr 0 x1 fun v1 => aFieldAddr 0 v1 fun v2 => aLoad1 v2 s fun v3 => aBin .geq v3 (AV.int .u8 6) fun v4 => (aGuard v4 true (aFieldAddr 0 x1 fun v6 => some (v6, s)) (some (AV.tuple [], s))).bind fun g5 => (aGuard v4 true (aFieldAddr 0 g5.1 fun v8 => some (v8, g5.2)) (some (AV.tuple [], g5.2))).bind fun g7 => (aGuard v4 true (aLoad1 g7.1 g7.2 fun v10 => some (v10, g7.2)) (some (AV.tuple [], g7.2))).bind fun g9 => (aGuard v4 true (aBin .leq g9.1 (AV.int .u8 8) fun v12 => some (v12, g9.2)) (some (AV.tuple [], g9.2))).bind fun g11 => aPick v4 g11.1 (AV.bool false) fun v13 => aUn .not v13 fun v14 => (aGuard v14 false (aFieldAddr 9 x1 fun v16 => some (v16, g11.2)) (some (AV.tuple [], g11.2))).bind fun g15 => (aGuard v14 false (aLoad1 g15.1 g15.2 fun v18 => some (v18, g15.2)) (some (AV.tuple [], g15.2))).bind fun g17 => (aGuard v14 false (aBin .gtr g17.1 (AV.int .u64 0) fun v20 => some (v20, g17.2)) (some (AV.tuple [], g17.2))).bind fun g19 => aPick v14 (AV.bool true) g19.1 fun v21 => (aGuard v21 true (aFieldAddr 0 x1 fun v23 => some (v23, g19.2)) (some (AV.tuple [], g19.2))).bind fun g22 => (aGuard v21 true (aFieldAddr 0 g22.1 fun v25 => some (v25, g22.2)) (some (AV.tuple [], g22.2))).bind fun g24 => (aGuard v21 true (aLoad1 g24.1 g24.2 fun v27 => some (v27, g24.2)) (some (AV.tuple [], g24.2))).bind fun g26 => (aGuard v21 true (aBin .neq g26.1 (AV.int .u8 8) fun v29 => some (v29, g26.2)) (some (AV.tuple [], g26.2))).bind fun g28 => (aGuard v21 true (some (g28.1, g28.2)) (some (AV.tuple [], g28.2))).bind fun g30 => (aGuard g30.1 false (aFieldAddr 11 x1 fun v32 => some (v32, g30.2)) (some (AV.tuple [], g30.2))).bind fun g31 => (aGuard g30.1 false (aLoad1 g31.1 g31.2 fun v34 => some (v34, g31.2)) (some (AV.tuple [], g31.2))).bind fun g33 => (aGuard g30.1 false (aLen g33.1 fun v36 => some (v36, g33.2)) (some (AV.tuple [], g33.2))).bind fun g35 => (aGuard g30.1 false (aBin .gtr g35.1 (AV.int .i64 0) fun v38 => some (v38, g35.2)) (some (AV.tuple [], g35.2))).bind fun g37 => (aGuard v21 true (aPick g30.1 (AV.bool true) g37.1 fun v40 => some (v40, g37.2)) (some (AV.tuple [], g37.2))).bind fun g39 => aPick v21 g39.1 (AV.bool false) fun v41 => some (v41, g39.2)
noncomputable abbrev F14.q0 (k : Nat) : Kz := fun fr s => F14.p0 k (fr 1) s
theorem F14.e0 (k : Nat) : F14.X k F14.c1 (retK Try.prog F14.rs) xN = (F14.q0 k) := lE
noncomputable abbrev F14.c2 : Code := cL F14.c0
noncomputable abbrev F14.x0 (k : Nat) : Nat → Kz := xB 0 (F14.q0 k) xN
noncomputable abbrev F14.c3 : Code := cB F14.c2
noncomputable abbrev F14.c4 : Code := cR F14.c3
noncomputable abbrev F14.c5 : Code := cT F14.c4
noncomputable def F14.p1 (k : Nat) (s : Store) : Rz :=
  some ((AV.bool false), s)
noncomputable abbrev F14.q1 (k : Nat) : Kz := fun fr s => F14.p1 k s
theorem F14.e1 (k : Nat) : F14.X k F14.c5 (F14.q0 k) (F14.x0 k) = (F14.q1 k) := lE
noncomputable abbrev F14.c6 : Code := cE F14.c4
noncomputable abbrev F14.c7 : Code := cR F14.c6
noncomputable def F14.p2 (k : Nat) (x1 x37 : AV) (s : Store) : Rz :=
  aIf x37 (some ((AV.bool false), s)) (F14.p0 k x1 s)
noncomputable abbrev F14.q2 (k : Nat) : Kz := fun fr s => F14.p2 k (fr 1) (fr 37) s
theorem F14.e2 (k : Nat) : F14.X k F14.c7 (F14.q0 k) (F14.x0 k) = (F14.q2 k) := lE
noncomputable abbrev F14.c8 : Code := cL F14.c6
noncomputable def F14.p3 (k : Nat) (x1 : AV) (s : Store) : Rz :=
  aFieldAddr 5 x1 fun v1 => aLoad1 v1 s fun v2 => aFieldAddr 9 x1 fun v3 => aLoad1 v3 s fun v4 => aFieldAddr 10 x1 fun v5 => aLoad1 v5 s fun v6 => aMaxL v2 [v4, v6] fun v7 => aBin .gtr v7 (AV.int .u64 4611686018427387904) fun v8 => aIf v8 (F14.p2 k x1 v8 s) (aLoadN 16 x1 s fun v9 => (rn k 33 [v9] s).bind fun q10 => aUn .not q10.1 fun v11 => aIf v11 (F14.p2 k x1 v11 q10.2) (aFieldAddr 11 x1 fun v12 => aLoad1 v12 q10.2 fun v13 => (rn k 34 [v13] q10.2).bind fun q14 => aUn .not q14.1 fun v15 => (aGuard v15 false (aFieldAddr 12 x1 fun v17 => some (v17, q14.2)) (some (AV.tuple [], q14.2))).bind fun g16 => (aGuard v15 false (aLoad1 g16.1 g16.2 fun v19 => some (v19, g16.2)) (some (AV.tuple [], g16.2))).bind fun g18 => (aGuard v15 false ((rn k 34 [g18.1] g18.2).bind fun q21 => some (q21.1, q21.2)) (some (AV.tuple [], g18.2))).bind fun g20 => (aGuard v15 false (aUn .not g20.1 fun v23 => some (v23, g20.2)) (some (AV.tuple [], g20.2))).bind fun g22 => aPick v15 (AV.bool true) g22.1 fun v24 => aIf v24 (F14.p2 k x1 v24 g22.2) (aFieldAddr 13 x1 fun v25 => aLoad1 v25 g22.2 fun v26 => (rn k 35 [v26] g22.2).bind fun q27 => aUn .not q27.1 fun v28 => (aGuard v28 false (aFieldAddr 14 x1 fun v30 => some (v30, q27.2)) (some (AV.tuple [], q27.2))).bind fun g29 => (aGuard v28 false (aLoad1 g29.1 g29.2 fun v32 => some (v32, g29.2)) (some (AV.tuple [], g29.2))).bind fun g31 => (aGuard v28 false ((rn k 35 [g31.1] g31.2).bind fun q34 => some (q34.1, q34.2)) (some (AV.tuple [], g31.2))).bind fun g33 => (aGuard v28 false (aUn .not g33.1 fun v36 => some (v36, g33.2)) (some (AV.tuple [], g33.2))).bind fun g35 => aPick v28 (AV.bool true) g35.1 fun v37 => F14.p2 k x1 v37 g35.2)))
noncomputable abbrev F14.q3 (k : Nat) : Kz := fun fr s => F14.p3 k (fr 1) s
theorem F14.e3 (k : Nat) : F14.X k F14.c8 (F14.q2 k) (F14.x0 k) = (F14.q3 k) := lE
theorem F14.e4 (k : Nat) : F14.X k F14.c6 (F14.q0 k) (F14.x0 k) = (F14.q3 k) := seqE (F14.e2 k) (F14.e3 k)
noncomputable def F14.p4 (k : Nat) (x1 x4 : AV) (s : Store) : Rz :=
  aIf x4 (F14.p1 k s) (F14.p3 k x1 s)
noncomputable abbrev F14.q4 (k : Nat) : Kz := fun fr s => F14.p4 k (fr 1) (fr 4) s
theorem F14.e5 (k : Nat) : F14.X k F14.c4 (F14.q0 k) (F14.x0 k) = (F14.q4 k) := condE (F14.e1 k) (F14.e4 k)
noncomputable abbrev F14.c9 : Code := cL F14.c3
noncomputable def F14.p5 (k : Nat) (x1 : AV) (s : Store) : Rz :=
  aFieldAddr 0 x1 fun v1 => aFieldAddr 0 v1 fun v2 => aLoad1 v2 s fun v3 => aBin .lss v3 (AV.int .u8 1) fun v4 => (aGuard v4 false (aFieldAddr 0 x1 fun v6 => some (v6, s)) (some (AV.tuple [], s))).bind fun g5 => (aGuard v4 false (aFieldAddr 0 g5.1 fun v8 => some (v8, g5.2)) (some (AV.tuple [], g5.2))).bind fun g7 => (aGuard v4 false (aLoad1 g7.1 g7.2 fun v10 => some (v10, g7.2)) (some (AV.tuple [], g7.2))).bind fun g9 => (aGuard v4 false (aBin .gtr g9.1 (AV.int .u8 10) fun v12 => some (v12, g9.2)) (some (AV.tuple [], g9.2))).bind fun g11 => aPick v4 (AV.bool true) g11.1 fun v13 => aIf v13 (F14.p4 k x1 v13 g11.2) (aFieldAddr 0 x1 fun v14 => aFieldAddr 1 v14 fun v15 => aLoad1 v15 g11.2 fun v16 => aBin .geq v16 (AV.int .u8 64) fun v17 => (aGuard v17 false (aFieldAddr 0 x1 fun v19 => some (v19, g11.2)) (some (AV.tuple [], g11.2))).bind fun g18 => (aGuard v17 false (aFieldAddr 2 g18.1 fun v21 => some (v21, g18.2)) (some (AV.tuple [], g18.2))).bind fun g20 => (aGuard v17 false (aLoad1 g20.1 g20.2 fun v23 => some (v23, g20.2)) (some (AV.tuple [], g20.2))).bind fun g22 => (aGuard v17 false (aBin .geq g22.1 (AV.int .u8 64) fun v25 => some (v25, g22.2)) (some (AV.tuple [], g22.2))).bind fun g24 => aPick v17 (AV.bool true) g24.1 fun v26 => (aGuard v26 false (aFieldAddr 0 x1 fun v28 => some (v28, g24.2)) (some (AV.tuple [], g24.2))).bind fun g27 => (aGuard v26 false (aFieldAddr 1 g27.1 fun v30 => some (v30, g27.2)) (some (AV.tuple [], g27.2))).bind fun g29 => (aGuard v26 false (aLoad1 g29.1 g29.2 fun v32 => some (v32, g29.2)) (some (AV.tuple [], g29.2))).bind fun g31 => (aGuard v26 false (aFieldAddr 0 x1 fun v34 => some (v34, g31.2)) (some (AV.tuple [], g31.2))).bind fun g33 => (aGuard v26 false (aFieldAddr 2 g33.1 fun v36 => some (v36, g33.2)) (some (AV.tuple [], g33.2))).bind fun g35 => (aGuard v26 false (aLoad1 g35.1 g35.2 fun v38 => some (v38, g35.2)) (some (AV.tuple [], g35.2))).bind fun g37 => (aGuard v26 false (aBin .eql g31.1 g37.1 fun v40 => some (v40, g37.2)) (some (AV.tuple [], g37.2))).bind fun g39 => aPick v26 (AV.bool true) g39.1 fun v41 => aIf v41 (F14.p4 k x1 v41 g39.2) (aLoadN 16 x1 g39.2 fun v42 => (rn k 32 [v42] g39.2).bind fun q43 => aUn .not q43.1 fun v44 => F14.p4 k x1 v44 q43.2))
noncomputable abbrev F14.q5 (k : Nat) : Kz := fun fr s => F14.p5 k (fr 1) s
theorem F14.e6 (k : Nat) : F14.X k F14.c9 (F14.q4 k) (F14.x0 k) = (F14.q5 k) := lE
theorem F14.e7 (k : Nat) : F14.X k F14.c3 (F14.q0 k) (F14.x0 k) = (F14.q5 k) := seqE (F14.e5 k) (F14.e6 k)
theorem F14.e8 (k : Nat) : F14.X k F14.c2 (F14.q0 k) xN = (F14.q5 k) := blockE (i := 0) (F14.e7 k)
theorem F14.e9 (k : Nat) : F14.X k F14.c0 (retK Try.prog F14.rs) xN = (F14.q5 k) := seqE (F14.e0 k) (F14.e8 k)
noncomputable abbrev F14.c10 : Code := cL F14.code
noncomputable def F14.p6 (k : Nat) (x0 : AV) (s : Store) : Rz :=
  aCells x0 fun c1 => aNew c1 s fun v2 s3 => F14.p5 k v2 s3
noncomputable abbrev F14.q6 (k : Nat) : Kz := fun fr s => F14.p6 k (fr 0) s
theorem F14.e10 (k : Nat) : F14.X k F14.c10 (F14.q5 k) xN = (F14.q6 k) := lE
theorem F14.e11 (k : Nat) : F14.X k F14.code (retK Try.prog F14.rs) xN = (F14.q6 k) := seqE (F14.e9 k) (F14.e10 k)
noncomputable def F14.f (k : Nat) (a0 : AV) (s : Store) : Rz := F14.p6 k a0 s
theorem F14.eq (k : Nat) (a0 : AV) (s : Store) : rn (k + 1) 14 [a0] s = F14.f k a0 s :=
  (rn_eq Try.func14 (by kernel_rfl) (by kernel_rfl) (by kernel_rfl) k s (by kernel_rfl)).trans (congrFun (congrFun (F14.e11 k) (frOf [a0])) s)

/-! unison/wire.body: function 17 -/
noncomputable def F17.code : Code := bodyOf Try.f17
noncomputable def F17.rs : List ResultVar := Try.f17.results.toList
noncomputable abbrev F17.X (k : Nat) (c : Code) (n : Kz) (x : Nat → Kz) : Kz := exec Try.prog (rn k) k 49 c ⟨n, x, retK Try.prog F17.rs⟩
noncomputable abbrev F17.c0 : Code := cR F17.code
noncomputable abbrev F17.c1 : Code := cR F17.c0
noncomputable abbrev F17.c2 : Code := cR F17.c1
noncomputable abbrev F17.c3 : Code := cR F17.c2
noncomputable abbrev F17.c4 : Code := cR F17.c3
noncomputable abbrev F17.c5 : Code := cR F17.c4
noncomputable abbrev F17.c6 : Code := cR F17.c5
noncomputable def F17.p0 (k : Nat) (x4 x6 : AV) (s : Store) : Rz :=
  aLen x4 fun v1 => (rn k 43 [x6] s).bind fun q2 => aBin .sub v1 q2.1 fun v3 => aSliceSl 1 x4 (some v3) none fun v4 => some (AV.tuple [v4, (AV.int .i64 0)], q2.2)
noncomputable abbrev F17.q0 (k : Nat) : Kz := fun fr s => F17.p0 k (fr 4) (fr 6) s
theorem F17.e0 (k : Nat) : F17.X k F17.c6 (retK Try.prog F17.rs) xN = (F17.q0 k) := lE
noncomputable abbrev F17.c7 : Code := cL F17.c5
noncomputable abbrev F17.x0 (k : Nat) : Nat → Kz := xB 0 (F17.q0 k) xN
noncomputable abbrev F17.c8 : Code := cB F17.c7
noncomputable def F17.p1 (k : Nat) (x4 x6 x7 x8 : AV) (s : Store) : Rz :=
  (rn k 44 [x6] s).bind fun q1 => aBin .neq q1.1 (AV.int .i64 0) fun v2 => aIf v2 ((rn k 44 [x6] q1.2).bind fun q3 => some (AV.tuple [AV.nilsl, q3.1], q3.2)) (aBin .lss x8 x7 fun v4 => aIf v4 (some (AV.tuple [AV.nilsl, (AV.int .i64 2)], q1.2)) (aBin .gtr x8 x7 fun v5 => aIf v5 (some (AV.tuple [AV.nilsl, (AV.int .i64 4)], q1.2)) (aBin .lss x8 (AV.int .u64 8) fun v6 => aIf v6 (some (AV.tuple [AV.nilsl, (AV.int .i64 2)], q1.2)) (F17.p0 k x4 x6 q1.2))))
noncomputable abbrev F17.q1 (k : Nat) : Kz := fun fr s => F17.p1 k (fr 4) (fr 6) (fr 7) (fr 8) s
theorem F17.e1 (k : Nat) : F17.X k F17.c8 (F17.q0 k) (F17.x0 k) = (F17.q1 k) := lE
theorem F17.e2 (k : Nat) : F17.X k F17.c7 (F17.q0 k) xN = (F17.q1 k) := blockE (i := 0) (F17.e1 k)
theorem F17.e3 (k : Nat) : F17.X k F17.c5 (retK Try.prog F17.rs) xN = (F17.q1 k) := seqE (F17.e0 k) (F17.e2 k)
noncomputable abbrev F17.c9 : Code := cL F17.c4
noncomputable def F17.p2 (k : Nat) (x4 x6 x7 : AV) (s : Store) : Rz :=
  (rn k 43 [x6] s).bind fun q1 => aConvInt .u64 q1.1 fun v2 => aBin .add v2 (AV.int .u64 4) fun v3 => F17.p1 k x4 x6 x7 v3 q1.2
noncomputable abbrev F17.q2 (k : Nat) : Kz := fun fr s => F17.p2 k (fr 4) (fr 6) (fr 7) s
theorem F17.e4 (k : Nat) : F17.X k F17.c9 (F17.q1 k) xN = (F17.q2 k) := lE
theorem F17.e5 (k : Nat) : F17.X k F17.c4 (retK Try.prog F17.rs) xN = (F17.q2 k) := seqE (F17.e3 k) (F17.e4 k)
noncomputable abbrev F17.c10 : Code := cL F17.c3
noncomputable def F17.p3 (k : Nat) (x4 x6 : AV) (s : Store) : Rz :=
  (rn k 42 [x6, (AV.int .u64 18446744073709551615)] s).bind fun q1 => F17.p2 k x4 x6 q1.1 q1.2
noncomputable abbrev F17.q3 (k : Nat) : Kz := fun fr s => F17.p3 k (fr 4) (fr 6) s
theorem F17.e6 (k : Nat) : F17.X k F17.c10 (F17.q2 k) xN = (F17.q3 k) := lE
theorem F17.e7 (k : Nat) : F17.X k F17.c3 (retK Try.prog F17.rs) xN = (F17.q3 k) := seqE (F17.e5 k) (F17.e6 k)
noncomputable abbrev F17.c11 : Code := cL F17.c2
noncomputable def F17.p4 (k : Nat) (x4 : AV) (s : Store) : Rz :=
  (rn k 18 [x4] s).bind fun q1 => F17.p3 k x4 q1.1 q1.2
noncomputable abbrev F17.q4 (k : Nat) : Kz := fun fr s => F17.p4 k (fr 4) s
theorem F17.e8 (k : Nat) : F17.X k F17.c11 (F17.q3 k) xN = (F17.q4 k) := lE
theorem F17.e9 (k : Nat) : F17.X k F17.c2 (retK Try.prog F17.rs) xN = (F17.q4 k) := seqE (F17.e7 k) (F17.e8 k)
noncomputable abbrev F17.c12 : Code := cL F17.c1
noncomputable def F17.p5 (k : Nat) (x4 x5 : AV) (s : Store) : Rz :=
  aBin .neq x5 (AV.int .i64 0) fun v1 => aIf v1 (some (AV.tuple [AV.nilsl, x5], s)) (F17.p4 k x4 s)
noncomputable abbrev F17.q5 (k : Nat) : Kz := fun fr s => F17.p5 k (fr 4) (fr 5) s
theorem F17.e10 (k : Nat) : F17.X k F17.c12 (F17.q4 k) xN = (F17.q5 k) := lE
theorem F17.e11 (k : Nat) : F17.X k F17.c1 (retK Try.prog F17.rs) xN = (F17.q5 k) := seqE (F17.e9 k) (F17.e10 k)
noncomputable abbrev F17.c13 : Code := cL F17.c0
noncomputable def F17.p6 (k : Nat) (x0 : AV) (s : Store) : Rz :=
  (rn k 41 [x0] s).bind fun q1 => aExtract 0 q1.1 fun v2 => aExtract 1 q1.1 fun v3 => F17.p5 k v2 v3 q1.2
noncomputable abbrev F17.q6 (k : Nat) : Kz := fun fr s => F17.p6 k (fr 0) s
theorem F17.e12 (k : Nat) : F17.X k F17.c13 (F17.q5 k) xN = (F17.q6 k) := lE
theorem F17.e13 (k : Nat) : F17.X k F17.c0 (retK Try.prog F17.rs) xN = (F17.q6 k) := seqE (F17.e11 k) (F17.e12 k)
noncomputable abbrev F17.c14 : Code := cL F17.code
noncomputable def F17.p7 (k : Nat) (x0 : AV) (s : Store) : Rz :=
  F17.p6 k x0 s
noncomputable abbrev F17.q7 (k : Nat) : Kz := fun fr s => F17.p7 k (fr 0) s
theorem F17.e14 (k : Nat) : F17.X k F17.c14 (F17.q6 k) xN = (F17.q7 k) := lE
theorem F17.e15 (k : Nat) : F17.X k F17.code (retK Try.prog F17.rs) xN = (F17.q7 k) := seqE (F17.e13 k) (F17.e14 k)
noncomputable def F17.f (k : Nat) (a0 : AV) (s : Store) : Rz := F17.p7 k a0 s
theorem F17.eq (k : Nat) (a0 : AV) (s : Store) : rn (k + 1) 17 [a0] s = F17.f k a0 s :=
  (rn_eq Try.func17 (by kernel_rfl) (by kernel_rfl) (by kernel_rfl) k s (by kernel_rfl)).trans (congrFun (congrFun (F17.e15 k) (frOf [a0])) s)

/-! unison/wire.Get: function 8 -/
noncomputable def F8.code : Code := bodyOf Try.f8
noncomputable def F8.rs : List ResultVar := Try.f8.results.toList
noncomputable abbrev F8.X (k : Nat) (c : Code) (n : Kz) (x : Nat → Kz) : Kz := exec Try.prog (rn k) k 67 c ⟨n, x, retK Try.prog F8.rs⟩
noncomputable abbrev F8.c0 : Code := cR F8.code
noncomputable abbrev F8.c1 : Code := cR F8.c0
noncomputable abbrev F8.c2 : Code := cR F8.c1
noncomputable abbrev F8.c3 : Code := cR F8.c2
noncomputable def F8.p0 (k : Nat) (x2 x4 x6 : AV) (s : Store) : Rz :=
  aSliceSl 1 x4 (some (AV.int .i64 4)) none fun v1 => (rn k 18 [v1] s).bind fun q2 => aBuild [(0, 1, q2.1)] [AV.nilptr] fun c3 => aNew [AV.nilptr] q2.2 fun v4 s5 => aStore 1 v4 (AV.agg c3) s5 fun s6 => aLoadN 1 v4 s6 fun v7 => (rn k 19 [x6, (AV.iface 50 v7)] s6).bind fun q8 => aFieldAddr 0 v4 fun v9 => aLoad1 v9 q8.2 fun v10 => (rn k 20 [v10] q8.2).bind fun q11 => aBin .neq q11.1 (AV.int .i64 0) fun v12 => aIf v12 (aBuild [] [AV.int .u8 0, AV.int .u8 0, AV.int .u8 0, AV.int .u8 0, AV.int .u64 0, AV.int .u64 0, AV.int .u32 0, AV.int .u32 0, AV.int .u32 0, AV.int .u64 0, AV.int .u64 0, AV.nilsl, AV.nilsl, AV.nilsl, AV.nilsl, AV.nilsl] fun c13 => aStore 16 x2 (AV.agg c13) q11.2 fun s14 => aLoadN 16 x2 s14 fun v15 => some (AV.tuple [v15, q11.1], s14)) (aLoadN 16 x6 q11.2 fun v16 => (rn k 14 [v16] q11.2).bind fun q17 => aUn .not q17.1 fun v18 => aIf v18 (aBuild [] [AV.int .u8 0, AV.int .u8 0, AV.int .u8 0, AV.int .u8 0, AV.int .u64 0, AV.int .u64 0, AV.int .u32 0, AV.int .u32 0, AV.int .u32 0, AV.int .u64 0, AV.int .u64 0, AV.nilsl, AV.nilsl, AV.nilsl, AV.nilsl, AV.nilsl] fun c19 => aStore 16 x2 (AV.agg c19) q17.2 fun s20 => aLoadN 16 x2 s20 fun v21 => some (AV.tuple [v21, (AV.int .i64 3)], s20)) (aLoadN 16 x6 q17.2 fun v22 => aStore 16 x2 v22 q17.2 fun s23 => aLoadN 16 x2 s23 fun v24 => some (AV.tuple [v24, (AV.int .i64 0)], s23)))
noncomputable abbrev F8.q0 (k : Nat) : Kz := fun fr s => F8.p0 k (fr 2) (fr 4) (fr 6) s
theorem F8.e0 (k : Nat) : F8.X k F8.c3 (retK Try.prog F8.rs) xN = (F8.q0 k) := lE
noncomputable abbrev F8.c4 : Code := cL F8.c2
noncomputable def F8.p1 (k : Nat) (x2 x4 : AV) (s : Store) : Rz :=
  (some (x4, s)).bind fun q1 => (aIndexSl 1 q1.1 (AV.int .i64 1) fun v3 => some (v3, q1.2)).bind fun q2 => (aLoad1 q2.1 q2.2 fun v5 => some (v5, q2.2)).bind fun q4 => (some (x4, q4.2)).bind fun q6 => (aIndexSl 1 q6.1 (AV.int .i64 2) fun v8 => some (v8, q6.2)).bind fun q7 => (aLoad1 q7.1 q7.2 fun v10 => some (v10, q7.2)).bind fun q9 => (some (x4, q9.2)).bind fun q11 => (aIndexSl 1 q11.1 (AV.int .i64 3) fun v13 => some (v13, q11.2)).bind fun q12 => (aLoad1 q12.1 q12.2 fun v15 => some (v15, q12.2)).bind fun q14 => (aBuild [(0, 1, q4.1), (1, 1, q9.1), (2, 1, q14.1)] [AV.int .u8 0, AV.int .u8 0, AV.int .u8 0] fun c17 => some ((AV.agg c17), q14.2)).bind fun q16 => (aBuild [(0, 3, q16.1)] [AV.int .u8 0, AV.int .u8 0, AV.int .u8 0, AV.int .u8 0, AV.int .u64 0, AV.int .u64 0, AV.int .u32 0, AV.int .u32 0, AV.int .u32 0, AV.int .u64 0, AV.int .u64 0, AV.nilsl, AV.nilsl, AV.nilsl, AV.nilsl, AV.nilsl] fun c19 => some ((AV.agg c19), q16.2)).bind fun q18 => (aNew [AV.int .u8 0, AV.int .u8 0, AV.int .u8 0, AV.int .u8 0, AV.int .u64 0, AV.int .u64 0, AV.int .u32 0, AV.int .u32 0, AV.int .u32 0, AV.int .u64 0, AV.int .u64 0, AV.nilsl, AV.nilsl, AV.nilsl, AV.nilsl, AV.nilsl] q18.2 fun v21 s22 => some (v21, s22)).bind fun q20 => (aLoad1 q12.1 q20.2 fun v23 => some (v23, q20.2)).bind fun z26 => aSame z26.1 q14.1 <| (aLoad1 q7.1 q20.2 fun v24 => some (v24, q20.2)).bind fun z27 => aSame z27.1 q9.1 <| (aLoad1 q2.1 q20.2 fun v25 => some (v25, q20.2)).bind fun z28 => aSame z28.1 q4.1 <| (aStore 16 q20.1 q18.1 q20.2 fun s30 => some ((AV.tuple []), s30)).bind fun q29 => F8.p0 k x2 x4 q20.1 q29.2
noncomputable abbrev F8.q1 (k : Nat) : Kz := fun fr s => F8.p1 k (fr 2) (fr 4) s
theorem F8.e1 (k : Nat) : F8.X k F8.c4 (F8.q0 k) xN = (F8.q1 k) := drawE [0, 1, 3, 0, 8, 24, 0, 64, 192, 511, 1023, 0, 4095]
theorem F8.e2 (k : Nat) : F8.X k F8.c2 (retK Try.prog F8.rs) xN = (F8.q1 k) := seqE (F8.e0 k) (F8.e1 k)
noncomputable abbrev F8.c5 : Code := cL F8.c1
noncomputable abbrev F8.x0 (k : Nat) : Nat → Kz := xB 0 (F8.q1 k) xN
noncomputable abbrev F8.c6 : Code := cB F8.c5
noncomputable def F8.p2 (k : Nat) (x2 x4 x5 : AV) (s : Store) : Rz :=
  aBin .neq x5 (AV.int .i64 0) fun v1 => aIf v1 (aBuild [] [AV.int .u8 0, AV.int .u8 0, AV.int .u8 0, AV.int .u8 0, AV.int .u64 0, AV.int .u64 0, AV.int .u32 0, AV.int .u32 0, AV.int .u32 0, AV.int .u64 0, AV.int .u64 0, AV.nilsl, AV.nilsl, AV.nilsl, AV.nilsl, AV.nilsl] fun c2 => aStore 16 x2 (AV.agg c2) s fun s3 => aLoadN 16 x2 s3 fun v4 => some (AV.tuple [v4, x5], s3)) (aIndexSl 1 x4 (AV.int .i64 0) fun v5 => aLoad1 v5 s fun v6 => aBin .neq v6 (AV.int .u8 1) fun v7 => aIf v7 (aBuild [] [AV.int .u8 0, AV.int .u8 0, AV.int .u8 0, AV.int .u8 0, AV.int .u64 0, AV.int .u64 0, AV.int .u32 0, AV.int .u32 0, AV.int .u32 0, AV.int .u64 0, AV.int .u64 0, AV.nilsl, AV.nilsl, AV.nilsl, AV.nilsl, AV.nilsl] fun c8 => aStore 16 x2 (AV.agg c8) s fun s9 => aLoadN 16 x2 s9 fun v10 => some (AV.tuple [v10, (AV.int .i64 3)], s9)) (aIndexSl 1 x4 (AV.int .i64 1) fun v11 => aLoad1 v11 s fun v12 => aBin .lss v12 (AV.int .u8 1) fun v13 => (aGuard v13 false (some (x4, s)) (some (AV.tuple [], s))).bind fun g14 => (aGuard v13 false (aIndexSl 1 g14.1 (AV.int .i64 1) fun v16 => some (v16, g14.2)) (some (AV.tuple [], g14.2))).bind fun g15 => (aGuard v13 false (aLoad1 g15.1 g15.2 fun v18 => some (v18, g15.2)) (some (AV.tuple [], g15.2))).bind fun g17 => (aGuard v13 false (aBin .gtr g17.1 (AV.int .u8 10) fun v20 => some (v20, g17.2)) (some (AV.tuple [], g17.2))).bind fun g19 => aPick v13 (AV.bool true) g19.1 fun v21 => aIf v21 (aBuild [] [AV.int .u8 0, AV.int .u8 0, AV.int .u8 0, AV.int .u8 0, AV.int .u64 0, AV.int .u64 0, AV.int .u32 0, AV.int .u32 0, AV.int .u32 0, AV.int .u64 0, AV.int .u64 0, AV.nilsl, AV.nilsl, AV.nilsl, AV.nilsl, AV.nilsl] fun c22 => aStore 16 x2 (AV.agg c22) g19.2 fun s23 => aLoadN 16 x2 s23 fun v24 => some (AV.tuple [v24, (AV.int .i64 10)], s23)) (F8.p1 k x2 x4 g19.2)))
noncomputable abbrev F8.q2 (k : Nat) : Kz := fun fr s => F8.p2 k (fr 2) (fr 4) (fr 5) s
theorem F8.e3 (k : Nat) : F8.X k F8.c6 (F8.q1 k) (F8.x0 k) = (F8.q2 k) := lE
theorem F8.e4 (k : Nat) : F8.X k F8.c5 (F8.q1 k) xN = (F8.q2 k) := blockE (i := 0) (F8.e3 k)
theorem F8.e5 (k : Nat) : F8.X k F8.c1 (retK Try.prog F8.rs) xN = (F8.q2 k) := seqE (F8.e2 k) (F8.e4 k)
noncomputable abbrev F8.c7 : Code := cL F8.c0
noncomputable def F8.p3 (k : Nat) (x0 x2 : AV) (s : Store) : Rz :=
  (rn k 17 [x0] s).bind fun q1 => aExtract 0 q1.1 fun v2 => aExtract 1 q1.1 fun v3 => F8.p2 k x2 v2 v3 q1.2
noncomputable abbrev F8.q3 (k : Nat) : Kz := fun fr s => F8.p3 k (fr 0) (fr 2) s
theorem F8.e6 (k : Nat) : F8.X k F8.c7 (F8.q2 k) xN = (F8.q3 k) := lE
theorem F8.e7 (k : Nat) : F8.X k F8.c0 (retK Try.prog F8.rs) xN = (F8.q3 k) := seqE (F8.e5 k) (F8.e6 k)
noncomputable abbrev F8.c8 : Code := cL F8.code
noncomputable def F8.p4 (k : Nat) (x0 : AV) (s : Store) : Rz :=
  aNew [AV.int .u8 0, AV.int .u8 0, AV.int .u8 0, AV.int .u8 0, AV.int .u64 0, AV.int .u64 0, AV.int .u32 0, AV.int .u32 0, AV.int .u32 0, AV.int .u64 0, AV.int .u64 0, AV.nilsl, AV.nilsl, AV.nilsl, AV.nilsl, AV.nilsl] s fun v1 s2 => F8.p3 k x0 v1 s2
noncomputable abbrev F8.q4 (k : Nat) : Kz := fun fr s => F8.p4 k (fr 0) s
theorem F8.e8 (k : Nat) : F8.X k F8.c8 (F8.q3 k) xN = (F8.q4 k) := lE
theorem F8.e9 (k : Nat) : F8.X k F8.code (retK Try.prog F8.rs) xN = (F8.q4 k) := seqE (F8.e7 k) (F8.e8 k)
noncomputable def F8.f (k : Nat) (a0 : AV) (s : Store) : Rz := F8.p4 k a0 s
theorem F8.eq (k : Nat) (a0 : AV) (s : Store) : rn (k + 1) 8 [a0] s = F8.f k a0 s :=
  (rn_eq Try.func8 (by kernel_rfl) (by kernel_rfl) (by kernel_rfl) k s (by kernel_rfl)).trans (congrFun (congrFun (F8.e9 k) (frOf [a0])) s)

/-! unison/wire.Put: function 13 -/
noncomputable def F13.code : Code := bodyOf Try.f13
noncomputable def F13.rs : List ResultVar := Try.f13.results.toList
noncomputable abbrev F13.X (k : Nat) (c : Code) (n : Kz) (x : Nat → Kz) : Kz := exec Try.prog (rn k) k 38 c ⟨n, x, retK Try.prog F13.rs⟩
noncomputable abbrev F13.c0 : Code := cR F13.code
noncomputable abbrev F13.c1 : Code := cR F13.c0
noncomputable abbrev F13.c2 : Code := cR F13.c1
noncomputable abbrev F13.c3 : Code := cR F13.c2
noncomputable abbrev F13.c4 : Code := cR F13.c3
noncomputable def F13.p0 (k : Nat) (x2 x3 : AV) (s : Store) : Rz :=
  some (AV.tuple [x2, x3], s)
noncomputable abbrev F13.q0 (k : Nat) : Kz := fun fr s => F13.p0 k (fr 2) (fr 3) s
theorem F13.e0 (k : Nat) : F13.X k F13.c4 (retK Try.prog F13.rs) xN = (F13.q0 k) := lE
noncomputable abbrev F13.c5 : Code := cL F13.c3
noncomputable def F13.p1 (k : Nat) (x4 : AV) (s : Store) : Rz :=
  (some (x4, s)).bind fun q1 => (aNilCheck q1.1 fun v3 => some (v3, q1.2)).bind fun q2 => (aFieldAddr 0 q2.1 fun v5 => some (v5, q2.2)).bind fun q4 => (aLoad1 q4.1 q4.2 fun v7 => some (v7, q4.2)).bind fun q6 => (aLen q6.1 fun v9 => some (v9, q6.2)).bind fun q8 => (aBin .add q8.1 (AV.int .i64 4) fun v11 => some (v11, q8.2)).bind fun q10 => (aConvInt .u64 q10.1 fun v13 => some (v13, q10.2)).bind fun q12 => (aBuild [(0, 1, q12.1)] [AV.int .u64 0] fun c15 => some ((AV.sl q12.2.next 0 1 1 1), (q12.2.push (.cells c15 false)))).bind fun q14 => ((rn k 31 [AV.nilsl, q14.1] q14.2).bind fun q17 => some (q17.1, q17.2)).bind fun q16 => (some (x4, q16.2)).bind fun q18 => (aNilCheck q18.1 fun v20 => some (v20, q18.2)).bind fun q19 => (aFieldAddr 0 q19.1 fun v22 => some (v22, q19.2)).bind fun q21 => (aLoad1 q21.1 q21.2 fun v24 => some (v24, q21.2)).bind fun q23 => (aLoad1 q21.1 q14.2 fun v25 => some (v25, q14.2)).bind fun z27 => aSame z27.1 q23.1 <| (aLoad1 q21.1 q12.2 fun v26 => some (v26, q12.2)).bind fun z28 => aSame z28.1 q23.1 <| (aBuild [(0, 1, q16.1), (1, 1, q23.1)] [AV.nilsl, AV.nilsl] fun c30 => some ((AV.sl q23.2.next 0 2 1 2), (q23.2.push (.cells c30 false)))).bind fun q29 => ((rn k 30 [q29.1] q29.2).bind fun q32 => some (q32.1, q32.2)).bind fun q31 => (some (q31.1, q31.2)).bind fun q33 => (some ((AV.int .i64 0), q33.2)).bind fun q34 => F13.p0 k q33.1 q34.1 q34.2
noncomputable abbrev F13.q1 (k : Nat) : Kz := fun fr s => F13.p1 k (fr 4) s
theorem F13.e1 (k : Nat) : F13.X k F13.c5 (F13.q0 k) xN = (F13.q1 k) := drawE [0, 1, 3, 7, 15, 31, 63, 127, 255, 0, 512, 1536, 3584, 8191, 16383, 32767, 65535]
theorem F13.e2 (k : Nat) : F13.X k F13.c3 (retK Try.prog F13.rs) xN = (F13.q1 k) := seqE (F13.e0 k) (F13.e1 k)
noncomputable abbrev F13.c6 : Code := cL F13.c2
noncomputable def F13.p2 (k : Nat) (x1 x4 : AV) (s : Store) : Rz :=
  (rn k 19 [x1, (AV.iface 68 x4)] s).bind fun q1 => F13.p1 k x4 q1.2
noncomputable abbrev F13.q2 (k : Nat) : Kz := fun fr s => F13.p2 k (fr 1) (fr 4) s
theorem F13.e3 (k : Nat) : F13.X k F13.c6 (F13.q1 k) xN = (F13.q2 k) := lE
theorem F13.e4 (k : Nat) : F13.X k F13.c2 (retK Try.prog F13.rs) xN = (F13.q2 k) := seqE (F13.e2 k) (F13.e3 k)
noncomputable abbrev F13.c7 : Code := cL F13.c1
noncomputable def F13.p3 (k : Nat) (x1 : AV) (s : Store) : Rz :=
  aFieldAddr 0 x1 fun v1 => aFieldAddr 0 v1 fun v2 => aLoad1 v2 s fun v3 => aFieldAddr 0 x1 fun v4 => aFieldAddr 1 v4 fun v5 => aLoad1 v5 s fun v6 => aFieldAddr 0 x1 fun v7 => aFieldAddr 2 v7 fun v8 => aLoad1 v8 s fun v9 => aBuild [(0, 1, (AV.int .u8 1)), (1, 1, v3), (2, 1, v6), (3, 1, v9)] [AV.int .u8 0, AV.int .u8 0, AV.int .u8 0, AV.int .u8 0] fun c10 => aBuild [(0, 1, (AV.sl s.next 0 4 1 4))] [AV.nilsl] fun c11 => aCells (AV.agg c11) fun c12 => aNew c12 (s.push (.cells c10 false)) fun v13 s14 => F13.p2 k x1 v13 s14
noncomputable abbrev F13.q3 (k : Nat) : Kz := fun fr s => F13.p3 k (fr 1) s
theorem F13.e5 (k : Nat) : F13.X k F13.c7 (F13.q2 k) xN = (F13.q3 k) := lE
theorem F13.e6 (k : Nat) : F13.X k F13.c1 (retK Try.prog F13.rs) xN = (F13.q3 k) := seqE (F13.e4 k) (F13.e5 k)
noncomputable abbrev F13.c8 : Code := cL F13.c0
noncomputable def F13.p4 (k : Nat) (x1 : AV) (s : Store) : Rz :=
  aLoadN 16 x1 s fun v1 => (rn k 14 [v1] s).bind fun q2 => aUn .not q2.1 fun v3 => aIf v3 (some (AV.tuple [AV.nilsl, (AV.int .i64 1)], q2.2)) (F13.p3 k x1 q2.2)
noncomputable abbrev F13.q4 (k : Nat) : Kz := fun fr s => F13.p4 k (fr 1) s
theorem F13.e7 (k : Nat) : F13.X k F13.c8 (F13.q3 k) xN = (F13.q4 k) := lE
theorem F13.e8 (k : Nat) : F13.X k F13.c0 (retK Try.prog F13.rs) xN = (F13.q4 k) := seqE (F13.e6 k) (F13.e7 k)
noncomputable abbrev F13.c9 : Code := cL F13.code
noncomputable def F13.p5 (k : Nat) (x0 : AV) (s : Store) : Rz :=
  aCells x0 fun c1 => aNew c1 s fun v2 s3 => F13.p4 k v2 s3
noncomputable abbrev F13.q5 (k : Nat) : Kz := fun fr s => F13.p5 k (fr 0) s
theorem F13.e9 (k : Nat) : F13.X k F13.c9 (F13.q4 k) xN = (F13.q5 k) := lE
theorem F13.e10 (k : Nat) : F13.X k F13.code (retK Try.prog F13.rs) xN = (F13.q5 k) := seqE (F13.e8 k) (F13.e9 k)
noncomputable def F13.f (k : Nat) (a0 : AV) (s : Store) : Rz := F13.p5 k a0 s
theorem F13.eq (k : Nat) (a0 : AV) (s : Store) : rn (k + 1) 13 [a0] s = F13.f k a0 s :=
  (rn_eq Try.func13 (by kernel_rfl) (by kernel_rfl) (by kernel_rfl) k s (by kernel_rfl)).trans (congrFun (congrFun (F13.e10 k) (frOf [a0])) s)

/-! unison/unisonref06.fields: function 23 -/
noncomputable def F23.code : Code := bodyOf Try.f23
noncomputable def F23.rs : List ResultVar := Try.f23.results.toList
noncomputable abbrev F23.X (k : Nat) (c : Code) (n : Kz) (x : Nat → Kz) : Kz := exec Try.prog (rn k) k 22 c ⟨n, x, retK Try.prog F23.rs⟩
noncomputable abbrev F23.c0 : Code := cR F23.code
noncomputable abbrev F23.c1 : Code := cR F23.c0
noncomputable def F23.p0 (k : Nat) (s : Store) : Rz :=
  some ((AV.str ⟨#[]⟩), s)
noncomputable abbrev F23.q0 (k : Nat) : Kz := fun fr s => F23.p0 k s
theorem F23.e0 (k : Nat) : F23.X k F23.c1 (retK Try.prog F23.rs) xN = (F23.q0 k) := lE
noncomputable abbrev F23.c2 : Code := cL F23.c0
noncomputable abbrev F23.c3 : Code := cR F23.c2
noncomputable abbrev F23.x0 (k : Nat) : Nat → Kz := xB 0 (F23.q0 k) xN
noncomputable abbrev F23.c4 : Code := cB F23.c3
noncomputable abbrev F23.c5 : Code := cR F23.c4
noncomputable abbrev F23.c6 : Code := cT F23.c5
noncomputable def F23.p1 (k : Nat) (s : Store) : Rz :=
  some ((AV.str ⟨#[113, 100, 97, 111, 122, 98]⟩), s)
noncomputable abbrev F23.q1 (k : Nat) : Kz := fun fr s => F23.p1 k s
theorem F23.e1 (k : Nat) : F23.X k F23.c6 (F23.q0 k) (F23.x0 k) = (F23.q1 k) := lE
noncomputable abbrev F23.c7 : Code := cE F23.c5
noncomputable abbrev F23.c8 : Code := cR F23.c7
noncomputable def F23.p2 (k : Nat) (x3 x6 : AV) (s : Store) : Rz :=
  aIf x6 (some ((AV.str ⟨#[113]⟩), s)) (aBin .eql x3 (AV.int .u8 3) fun v1 => aIf v1 (some ((AV.str ⟨#[100, 97]⟩), s)) (aBin .eql x3 (AV.int .u8 4) fun v2 => aIf v2 (some ((AV.str ⟨#[100, 97, 111, 122, 98]⟩), s)) (aBin .eql x3 (AV.int .u8 6) fun v3 => aIf v3 (some ((AV.str ⟨#[105, 114, 101]⟩), s)) (aBin .eql x3 (AV.int .u8 7) fun v4 => aIf v4 (some ((AV.str ⟨#[105, 114, 101, 120]⟩), s)) (aBin .eql x3 (AV.int .u8 8) fun v5 => aIf v5 (some ((AV.str ⟨#[105, 101]⟩), s)) (aBin .eql x3 (AV.int .u8 9) fun v6 => aIf v6 (some ((AV.str ⟨#[105, 110, 104]⟩), s)) (F23.p0 k s)))))))
noncomputable abbrev F23.q2 (k : Nat) : Kz := fun fr s => F23.p2 k (fr 3) (fr 6) s
theorem F23.e2 (k : Nat) : F23.X k F23.c8 (F23.q0 k) (F23.x0 k) = (F23.q2 k) := lE
noncomputable abbrev F23.c9 : Code := cL F23.c7
noncomputable def F23.p3 (k : Nat) (x3 : AV) (s : Store) : Rz :=
  aBin .eql x3 (AV.int .u8 2) fun v1 => aIf v1 (F23.p2 k x3 v1 s) (aBin .eql x3 (AV.int .u8 5) fun v2 => aIf v2 (F23.p2 k x3 v2 s) (aBin .eql x3 (AV.int .u8 10) fun v3 => F23.p2 k x3 v3 s))
noncomputable abbrev F23.q3 (k : Nat) : Kz := fun fr s => F23.p3 k (fr 3) s
theorem F23.e3 (k : Nat) : F23.X k F23.c9 (F23.q2 k) (F23.x0 k) = (F23.q3 k) := lE
theorem F23.e4 (k : Nat) : F23.X k F23.c7 (F23.q0 k) (F23.x0 k) = (F23.q3 k) := seqE (F23.e2 k) (F23.e3 k)
noncomputable def F23.p4 (k : Nat) (x3 x4 : AV) (s : Store) : Rz :=
  aIf x4 (F23.p1 k s) (F23.p3 k x3 s)
noncomputable abbrev F23.q4 (k : Nat) : Kz := fun fr s => F23.p4 k (fr 3) (fr 4) s
theorem F23.e5 (k : Nat) : F23.X k F23.c5 (F23.q0 k) (F23.x0 k) = (F23.q4 k) := condE (F23.e1 k) (F23.e4 k)
noncomputable abbrev F23.c10 : Code := cL F23.c4
noncomputable def F23.p5 (k : Nat) (x3 : AV) (s : Store) : Rz :=
  aBin .eql x3 (AV.int .u8 1) fun v1 => F23.p4 k x3 v1 s
noncomputable abbrev F23.q5 (k : Nat) : Kz := fun fr s => F23.p5 k (fr 3) s
theorem F23.e6 (k : Nat) : F23.X k F23.c10 (F23.q4 k) (F23.x0 k) = (F23.q5 k) := lE
theorem F23.e7 (k : Nat) : F23.X k F23.c4 (F23.q0 k) (F23.x0 k) = (F23.q5 k) := seqE (F23.e5 k) (F23.e6 k)
theorem F23.e8 (k : Nat) : F23.X k F23.c3 (F23.q0 k) xN = (F23.q5 k) := blockE (i := 0) (F23.e7 k)
noncomputable abbrev F23.c11 : Code := cL F23.c2
noncomputable def F23.p6 (k : Nat) (x0 : AV) (s : Store) : Rz :=
  F23.p5 k x0 s
noncomputable abbrev F23.q6 (k : Nat) : Kz := fun fr s => F23.p6 k (fr 0) s
theorem F23.e9 (k : Nat) : F23.X k F23.c11 (F23.q5 k) xN = (F23.q6 k) := lE
theorem F23.e10 (k : Nat) : F23.X k F23.c2 (F23.q0 k) xN = (F23.q6 k) := seqE (F23.e8 k) (F23.e9 k)
theorem F23.e11 (k : Nat) : F23.X k F23.c0 (retK Try.prog F23.rs) xN = (F23.q6 k) := seqE (F23.e0 k) (F23.e10 k)
noncomputable abbrev F23.c12 : Code := cL F23.code
noncomputable def F23.p7 (k : Nat) (x0 : AV) (s : Store) : Rz :=
  F23.p6 k x0 s
noncomputable abbrev F23.q7 (k : Nat) : Kz := fun fr s => F23.p7 k (fr 0) s
theorem F23.e12 (k : Nat) : F23.X k F23.c12 (F23.q6 k) xN = (F23.q7 k) := lE
theorem F23.e13 (k : Nat) : F23.X k F23.code (retK Try.prog F23.rs) xN = (F23.q7 k) := seqE (F23.e11 k) (F23.e12 k)
noncomputable def F23.f (k : Nat) (a0 : AV) (s : Store) : Rz := F23.p7 k a0 s
theorem F23.eq (k : Nat) (a0 : AV) (s : Store) : rn (k + 1) 23 [a0] s = F23.f k a0 s :=
  (rn_eq Try.func23 (by kernel_rfl) (by kernel_rfl) (by kernel_rfl) k s (by kernel_rfl)).trans (congrFun (congrFun (F23.e13 k) (frOf [a0])) s)

/-! unison/unisonref06.in: function 37 -/
noncomputable def F37.code : Code := bodyOf Try.f37
noncomputable def F37.rs : List ResultVar := Try.f37.results.toList
noncomputable abbrev F37.X (k : Nat) (c : Code) (n : Kz) (x : Nat → Kz) : Kz := exec Try.prog (rn k) k 17 c ⟨n, x, retK Try.prog F37.rs⟩
noncomputable abbrev F37.c0 : Code := cR F37.code
noncomputable abbrev F37.c1 : Code := cR F37.c0
noncomputable def F37.p0 (k : Nat) (s : Store) : Rz :=
  some ((AV.bool false), s)
noncomputable abbrev F37.q0 (k : Nat) : Kz := fun fr s => F37.p0 k s
theorem F37.e0 (k : Nat) : F37.X k F37.c1 (retK Try.prog F37.rs) xN = (F37.q0 k) := lE
noncomputable abbrev F37.c2 : Code := cL F37.c0
noncomputable abbrev F37.c3 : Code := cR F37.c2
noncomputable abbrev F37.x0 (k : Nat) : Nat → Kz := xB 0 (F37.q0 k) xN
noncomputable abbrev F37.c4 : Code := cB F37.c3
noncomputable abbrev F37.c5 : Code := cB F37.c4
noncomputable abbrev F37.c6 : Code := cR F37.c5
noncomputable abbrev F37.c7 : Code := cR F37.c6
noncomputable def F37.p1 (k : Nat) (R0 : Ar3) (x0 x1 x5 : AV) (s : Store) : Rz :=
  aBin .add x5 (AV.int .i64 1) fun v1 => R0 x0 x1 v1 s
noncomputable abbrev F37.q1 (k : Nat) (R0 : Ar3) : Kz := fun fr s => F37.p1 k R0 (fr 0) (fr 1) (fr 5) s
theorem F37.e1 (k : Nat) (R0 : Ar3) : F37.X k F37.c7 (fun fr s => R0 (fr 0) (fr 1) (fr 5) s) (F37.x0 k) = (F37.q1 k R0) := lE
noncomputable abbrev F37.c8 : Code := cL F37.c6
noncomputable abbrev F37.x1 (k : Nat) (R0 : Ar3) : Nat → Kz := xB 1 (F37.q1 k R0) (F37.x0 k)
noncomputable abbrev F37.c9 : Code := cB F37.c8
noncomputable def F37.p2 (k : Nat) (R0 : Ar3) (x0 x1 x5 : AV) (s : Store) : Rz :=
  aIndexStr x0 x5 fun v1 => aBin .eql v1 x1 fun v2 => aIf v2 (some ((AV.bool true), s)) (F37.p1 k R0 x0 x1 x5 s)
noncomputable abbrev F37.q2 (k : Nat) (R0 : Ar3) : Kz := fun fr s => F37.p2 k R0 (fr 0) (fr 1) (fr 5) s
theorem F37.e2 (k : Nat) (R0 : Ar3) : F37.X k F37.c9 (F37.q1 k R0) (F37.x1 k R0) = (F37.q2 k R0) := lE
theorem F37.e3 (k : Nat) (R0 : Ar3) : F37.X k F37.c8 (F37.q1 k R0) (F37.x0 k) = (F37.q2 k R0) := blockE (i := 1) (F37.e2 k R0)
theorem F37.e4 (k : Nat) (R0 : Ar3) : F37.X k F37.c6 (fun fr s => R0 (fr 0) (fr 1) (fr 5) s) (F37.x0 k) = (F37.q2 k R0) := seqE (F37.e1 k R0) (F37.e3 k R0)
noncomputable abbrev F37.c10 : Code := cL F37.c5
noncomputable def F37.p3 (k : Nat) (R0 : Ar3) (x0 x1 x5 : AV) (s : Store) : Rz :=
  aLenStr x0 fun v1 => aBin .lss x5 v1 fun v2 => aIf v2 (F37.p2 k R0 x0 x1 x5 s) (F37.p0 k s)
noncomputable abbrev F37.q3 (k : Nat) (R0 : Ar3) : Kz := fun fr s => F37.p3 k R0 (fr 0) (fr 1) (fr 5) s
theorem F37.e5 (k : Nat) (R0 : Ar3) : F37.X k F37.c10 (F37.q2 k R0) (F37.x0 k) = (F37.q3 k R0) := lE
theorem F37.e6 (k : Nat) (R0 : Ar3) : F37.X k F37.c5 (fun fr s => R0 (fr 0) (fr 1) (fr 5) s) (F37.x0 k) = (F37.q3 k R0) := seqE (F37.e4 k R0) (F37.e5 k R0)
noncomputable def F37.l0 (k : Nat) : Nat → Ar3 := iterF (fun _ _ _ _ => none) (fun R0 x0 x1 x5 s => F37.p3 k R0 x0 x1 x5 s)
theorem F37.e7 (k : Nat) : F37.X k F37.c4 (F37.q0 k) (F37.x0 k) = (fun fr s => F37.l0 k k (fr 0) (fr 1) (fr 5) s) := loopE (fun R0 : Ar3 => (fun fr s => R0 (fr 0) (fr 1) (fr 5) s)) (z := (fun _ _ _ _ => none)) (B := (fun R0 x0 x1 x5 s => F37.p3 k R0 x0 x1 x5 s)) rfl (fun R0 => F37.e6 k R0)
theorem F37.e8 (k : Nat) : F37.X k F37.c3 (F37.q0 k) xN = (fun fr s => F37.l0 k k (fr 0) (fr 1) (fr 5) s) := blockE (i := 0) (F37.e7 k)
noncomputable abbrev F37.c11 : Code := cL F37.c2
noncomputable def F37.p4 (k : Nat) (x0 x1 : AV) (s : Store) : Rz :=
  F37.l0 k k x0 x1 (AV.int .i64 0) s
noncomputable abbrev F37.q4 (k : Nat) : Kz := fun fr s => F37.p4 k (fr 0) (fr 1) s
theorem F37.e9 (k : Nat) : F37.X k F37.c11 (fun fr s => F37.l0 k k (fr 0) (fr 1) (fr 5) s) xN = (F37.q4 k) := lE
theorem F37.e10 (k : Nat) : F37.X k F37.c2 (F37.q0 k) xN = (F37.q4 k) := seqE (F37.e8 k) (F37.e9 k)
theorem F37.e11 (k : Nat) : F37.X k F37.c0 (retK Try.prog F37.rs) xN = (F37.q4 k) := seqE (F37.e0 k) (F37.e10 k)
noncomputable abbrev F37.c12 : Code := cL F37.code
noncomputable def F37.p5 (k : Nat) (x0 x1 : AV) (s : Store) : Rz :=
  F37.p4 k x0 x1 s
noncomputable abbrev F37.q5 (k : Nat) : Kz := fun fr s => F37.p5 k (fr 0) (fr 1) s
theorem F37.e12 (k : Nat) : F37.X k F37.c12 (F37.q4 k) xN = (F37.q5 k) := lE
theorem F37.e13 (k : Nat) : F37.X k F37.code (retK Try.prog F37.rs) xN = (F37.q5 k) := seqE (F37.e11 k) (F37.e12 k)
noncomputable def F37.f (k : Nat) (a0 a1 : AV) (s : Store) : Rz := F37.p5 k a0 a1 s
theorem F37.eq (k : Nat) (a0 a1 : AV) (s : Store) : rn (k + 1) 37 [a0, a1] s = F37.f k a0 a1 s :=
  (rn_eq Try.func37 (by kernel_rfl) (by kernel_rfl) (by kernel_rfl) k s (by kernel_rfl)).trans (congrFun (congrFun (F37.e13 k) (frOf [a0, a1])) s)

/-! unison/unisonref06.absent: function 36 -/
noncomputable def F36.code : Code := bodyOf Try.f36
noncomputable def F36.rs : List ResultVar := Try.f36.results.toList
noncomputable abbrev F36.X (k : Nat) (c : Code) (n : Kz) (x : Nat → Kz) : Kz := exec Try.prog (rn k) k 128 c ⟨n, x, retK Try.prog F36.rs⟩
noncomputable def F36.p0 (k : Nat) (x0 x1 : AV) (s : Store) : Rz :=
  aCells x0 fun c1 => aNew c1 s fun v2 s3 => (rn k 37 [x1, (AV.int .u8 113)] s3).bind fun q4 => aUn .not q4.1 fun v5 => (aGuard v5 true (aFieldAddr 5 v2 fun v7 => some (v7, q4.2)) (some (AV.tuple [], q4.2))).bind fun g6 => (aGuard v5 true (aLoad1 g6.1 g6.2 fun v9 => some (v9, g6.2)) (some (AV.tuple [], g6.2))).bind fun g8 => (aGuard v5 true (aBin .neq g8.1 (AV.int .u64 0) fun v11 => some (v11, g8.2)) (some (AV.tuple [], g8.2))).bind fun g10 => aPick v5 g10.1 (AV.bool false) fun v12 => (aGuard v12 false (some (x1, g10.2)) (some (AV.tuple [], g10.2))).bind fun g13 => (aGuard v12 false ((rn k 37 [g13.1, (AV.int .u8 100)] g13.2).bind fun q15 => some (q15.1, q15.2)) (some (AV.tuple [], g13.2))).bind fun g14 => (aGuard v12 false (aUn .not g14.1 fun v17 => some (v17, g14.2)) (some (AV.tuple [], g14.2))).bind fun g16 => (aGuard v12 false (some (g16.1, g16.2)) (some (AV.tuple [], g16.2))).bind fun g18 => (aGuard g18.1 true (aFieldAddr 3 v2 fun v20 => some (v20, g18.2)) (some (AV.tuple [], g18.2))).bind fun g19 => (aGuard g18.1 true (aFieldAddr 0 g19.1 fun v22 => some (v22, g19.2)) (some (AV.tuple [], g19.2))).bind fun g21 => (aGuard g18.1 true (aLoad1 g21.1 g21.2 fun v24 => some (v24, g21.2)) (some (AV.tuple [], g21.2))).bind fun g23 => (aGuard g18.1 true (aBin .neq g23.1 (AV.int .u8 0) fun v26 => some (v26, g23.2)) (some (AV.tuple [], g23.2))).bind fun g25 => (aGuard g18.1 true (some (g25.1, g25.2)) (some (AV.tuple [], g25.2))).bind fun g27 => (aGuard g27.1 false (aFieldAddr 3 v2 fun v29 => some (v29, g27.2)) (some (AV.tuple [], g27.2))).bind fun g28 => (aGuard g27.1 false (aFieldAddr 1 g28.1 fun v31 => some (v31, g28.2)) (some (AV.tuple [], g28.2))).bind fun g30 => (aGuard g27.1 false (aLoad1 g30.1 g30.2 fun v33 => some (v33, g30.2)) (some (AV.tuple [], g30.2))).bind fun g32 => (aGuard g27.1 false (aBin .neq g32.1 (AV.int .u64 0) fun v35 => some (v35, g32.2)) (some (AV.tuple [], g32.2))).bind fun g34 => (aGuard g18.1 true (aPick g27.1 (AV.bool true) g34.1 fun v37 => some (v37, g34.2)) (some (AV.tuple [], g34.2))).bind fun g36 => (aGuard v12 false (aPick g18.1 g36.1 (AV.bool false) fun v39 => some (v39, g36.2)) (some (AV.tuple [], g36.2))).bind fun g38 => aPick v12 (AV.bool true) g38.1 fun v40 => (aGuard v40 false (some (x1, g38.2)) (some (AV.tuple [], g38.2))).bind fun g41 => (aGuard v40 false ((rn k 37 [g41.1, (AV.int .u8 97)] g41.2).bind fun q43 => some (q43.1, q43.2)) (some (AV.tuple [], g41.2))).bind fun g42 => (aGuard v40 false (aUn .not g42.1 fun v45 => some (v45, g42.2)) (some (AV.tuple [], g42.2))).bind fun g44 => (aGuard v40 false (some (g44.1, g44.2)) (some (AV.tuple [], g44.2))).bind fun g46 => (aGuard g46.1 true (aFieldAddr 6 v2 fun v48 => some (v48, g46.2)) (some (AV.tuple [], g46.2))).bind fun g47 => (aGuard g46.1 true (aLoad1 g47.1 g47.2 fun v50 => some (v50, g47.2)) (some (AV.tuple [], g47.2))).bind fun g49 => (aGuard g46.1 true (aBin .neq g49.1 (AV.int .u32 0) fun v52 => some (v52, g49.2)) (some (AV.tuple [], g49.2))).bind fun g51 => (aGuard v40 false (aPick g46.1 g51.1 (AV.bool false) fun v54 => some (v54, g51.2)) (some (AV.tuple [], g51.2))).bind fun g53 => aPick v40 (AV.bool true) g53.1 fun v55 => (aGuard v55 false (some (x1, g53.2)) (some (AV.tuple [], g53.2))).bind fun g56 => (aGuard v55 false ((rn k 37 [g56.1, (AV.int .u8 111)] g56.2).bind fun q58 => some (q58.1, q58.2)) (some (AV.tuple [], g56.2))).bind fun g57 => (aGuard v55 false (aUn .not g57.1 fun v60 => some (v60, g57.2)) (some (AV.tuple [], g57.2))).bind fun g59 => (aGuard v55 false (some (g59.1, g59.2)) (some (AV.tuple [], g59.2))).bind fun g61 => (aGuard g61.1 true (aFieldAddr 7 v2 fun v63 => some (v63, g61.2)) (some (AV.tuple [], g61.2))).bind fun g62 => (aGuard g61.1 true (aLoad1 g62.1 g62.2 fun v65 => some (v65, g62.2)) (some (AV.tuple [], g62.2))).bind fun g64 => (aGuard g61.1 true (aBin .neq g64.1 (AV.int .u32 0) fun v67 => some (v67, g64.2)) (some (AV.tuple [], g64.2))).bind fun g66 => (aGuard v55 false (aPick g61.1 g66.1 (AV.bool false) fun v69 => some (v69, g66.2)) (some (AV.tuple [], g66.2))).bind fun g68 => aPick v55 (AV.bool true) g68.1 fun v70 => (aGuard v70 false (some (x1, g68.2)) (some (AV.tuple [], g68.2))).bind fun g71 => (aGuard v70 false ((rn k 37 [g71.1, (AV.int .u8 122)] g71.2).bind fun q73 => some (q73.1, q73.2)) (some (AV.tuple [], g71.2))).bind fun g72 => (aGuard v70 false (aUn .not g72.1 fun v75 => some (v75, g72.2)) (some (AV.tuple [], g72.2))).bind fun g74 => (aGuard v70 false (some (g74.1, g74.2)) (some (AV.tuple [], g74.2))).bind fun g76 => (aGuard g76.1 true (aFieldAddr 8 v2 fun v78 => some (v78, g76.2)) (some (AV.tuple [], g76.2))).bind fun g77 => (aGuard g76.1 true (aLoad1 g77.1 g77.2 fun v80 => some (v80, g77.2)) (some (AV.tuple [], g77.2))).bind fun g79 => (aGuard g76.1 true (aBin .neq g79.1 (AV.int .u32 0) fun v82 => some (v82, g79.2)) (some (AV.tuple [], g79.2))).bind fun g81 => (aGuard v70 false (aPick g76.1 g81.1 (AV.bool false) fun v84 => some (v84, g81.2)) (some (AV.tuple [], g81.2))).bind fun g83 => aPick v70 (AV.bool true) g83.1 fun v85 => aIf v85 (some ((AV.bool false), g83.2)) ((rn k 37 [x1, (AV.int .u8 105)] g83.2).bind fun q86 => aUn .not q86.1 fun v87 => (aGuard v87 true (aFieldAddr 9 v2 fun v89 => some (v89, q86.2)) (some (AV.tuple [], q86.2))).bind fun g88 => (aGuard v87 true (aLoad1 g88.1 g88.2 fun v91 => some (v91, g88.2)) (some (AV.tuple [], g88.2))).bind fun g90 => (aGuard v87 true (aBin .neq g90.1 (AV.int .u64 0) fun v93 => some (v93, g90.2)) (some (AV.tuple [], g90.2))).bind fun g92 => aPick v87 g92.1 (AV.bool false) fun v94 => (aGuard v94 false (some (x1, g92.2)) (some (AV.tuple [], g92.2))).bind fun g95 => (aGuard v94 false ((rn k 37 [g95.1, (AV.int .u8 114)] g95.2).bind fun q97 => some (q97.1, q97.2)) (some (AV.tuple [], g95.2))).bind fun g96 => (aGuard v94 false (aUn .not g96.1 fun v99 => some (v99, g96.2)) (some (AV.tuple [], g96.2))).bind fun g98 => (aGuard v94 false (some (g98.1, g98.2)) (some (AV.tuple [], g98.2))).bind fun g100 => (aGuard g100.1 true (aFieldAddr 10 v2 fun v102 => some (v102, g100.2)) (some (AV.tuple [], g100.2))).bind fun g101 => (aGuard g100.1 true (aLoad1 g101.1 g101.2 fun v104 => some (v104, g101.2)) (some (AV.tuple [], g101.2))).bind fun g103 => (aGuard g100.1 true (aBin .neq g103.1 (AV.int .u64 0) fun v106 => some (v106, g103.2)) (some (AV.tuple [], g103.2))).bind fun g105 => (aGuard v94 false (aPick g100.1 g105.1 (AV.bool false) fun v108 => some (v108, g105.2)) (some (AV.tuple [], g105.2))).bind fun g107 => aPick v94 (AV.bool true) g107.1 fun v109 => (aGuard v109 false (some (x1, g107.2)) (some (AV.tuple [], g107.2))).bind fun g110 => (aGuard v109 false ((rn k 37 [g110.1, (AV.int .u8 101)] g110.2).bind fun q112 => some (q112.1, q112.2)) (some (AV.tuple [], g110.2))).bind fun g111 => (aGuard v109 false (aUn .not g111.1 fun v114 => some (v114, g111.2)) (some (AV.tuple [], g111.2))).bind fun g113 => (aGuard v109 false (some (g113.1, g113.2)) (some (AV.tuple [], g113.2))).bind fun g115 => (aGuard g115.1 true (aFieldAddr 11 v2 fun v117 => some (v117, g115.2)) (some (AV.tuple [], g115.2))).bind fun g116 => (aGuard g115.1 true (aLoad1 g116.1 g116.2 fun v119 => some (v119, g116.2)) (some (AV.tuple [], g116.2))).bind fun g118 => (aGuard g115.1 true (aLen g118.1 fun v121 => some (v121, g118.2)) (some (AV.tuple [], g118.2))).bind fun g120 => (aGuard g115.1 true (aBin .gtr g120.1 (AV.int .i64 0) fun v123 => some (v123, g120.2)) (some (AV.tuple [], g120.2))).bind fun g122 => (aGuard v109 false (aPick g115.1 g122.1 (AV.bool false) fun v125 => some (v125, g122.2)) (some (AV.tuple [], g122.2))).bind fun g124 => aPick v109 (AV.bool true) g124.1 fun v126 => (aGuard v126 false (some (x1, g124.2)) (some (AV.tuple [], g124.2))).bind fun g127 => (aGuard v126 false ((rn k 37 [g127.1, (AV.int .u8 120)] g127.2).bind fun q129 => some (q129.1, q129.2)) (some (AV.tuple [], g127.2))).bind fun g128 => (aGuard v126 false (aUn .not g128.1 fun v131 => some (v131, g128.2)) (some (AV.tuple [], g128.2))).bind fun g130 => (aGuard v126 false (some (g130.1, g130.2)) (some (AV.tuple [], g130.2))).bind fun g132 => (aGuard g132.1 true (aFieldAddr 12 v2 fun v134 => some (v134, g132.2)) (some (AV.tuple [], g132.2))).bind fun g133 => (aGuard g132.1 true (aLoad1 g133.1 g133.2 fun v136 => some (v136, g133.2)) (some (AV.tuple [], g133.2))).bind fun g135 => (aGuard g132.1 true (aLen g135.1 fun v138 => some (v138, g135.2)) (some (AV.tuple [], g135.2))).bind fun g137 => (aGuard g132.1 true (aBin .gtr g137.1 (AV.int .i64 0) fun v140 => some (v140, g137.2)) (some (AV.tuple [], g137.2))).bind fun g139 => (aGuard v126 false (aPick g132.1 g139.1 (AV.bool false) fun v142 => some (v142, g139.2)) (some (AV.tuple [], g139.2))).bind fun g141 => aPick v126 (AV.bool true) g141.1 fun v143 => aIf v143 (some ((AV.bool false), g141.2)) ((rn k 37 [x1, (AV.int .u8 110)] g141.2).bind fun q144 => (aGuard q144.1 false (aFieldAddr 13 v2 fun v146 => some (v146, q144.2)) (some (AV.tuple [], q144.2))).bind fun g145 => (aGuard q144.1 false (aLoad1 g145.1 g145.2 fun v148 => some (v148, g145.2)) (some (AV.tuple [], g145.2))).bind fun g147 => (aGuard q144.1 false (aLen g147.1 fun v150 => some (v150, g147.2)) (some (AV.tuple [], g147.2))).bind fun g149 => (aGuard q144.1 false (aBin .eql g149.1 (AV.int .i64 0) fun v152 => some (v152, g149.2)) (some (AV.tuple [], g149.2))).bind fun g151 => aPick q144.1 (AV.bool true) g151.1 fun v153 => (aGuard v153 true (some (x1, g151.2)) (some (AV.tuple [], g151.2))).bind fun g154 => (aGuard v153 true ((rn k 37 [g154.1, (AV.int .u8 104)] g154.2).bind fun q156 => some (q156.1, q156.2)) (some (AV.tuple [], g154.2))).bind fun g155 => (aGuard v153 true (some (g155.1, g155.2)) (some (AV.tuple [], g155.2))).bind fun g157 => (aGuard g157.1 false (aFieldAddr 14 v2 fun v159 => some (v159, g157.2)) (some (AV.tuple [], g157.2))).bind fun g158 => (aGuard g157.1 false (aLoad1 g158.1 g158.2 fun v161 => some (v161, g158.2)) (some (AV.tuple [], g158.2))).bind fun g160 => (aGuard g157.1 false (aLen g160.1 fun v163 => some (v163, g160.2)) (some (AV.tuple [], g160.2))).bind fun g162 => (aGuard g157.1 false (aBin .eql g162.1 (AV.int .i64 0) fun v165 => some (v165, g162.2)) (some (AV.tuple [], g162.2))).bind fun g164 => (aGuard v153 true (aPick g157.1 (AV.bool true) g164.1 fun v167 => some (v167, g164.2)) (some (AV.tuple [], g164.2))).bind fun g166 => aPick v153 g166.1 (AV.bool false) fun v168 => (aGuard v168 true (some (x1, g166.2)) (some (AV.tuple [], g166.2))).bind fun g169 => (aGuard v168 true ((rn k 37 [g169.1, (AV.int .u8 98)] g169.2).bind fun q171 => some (q171.1, q171.2)) (some (AV.tuple [], g169.2))).bind fun g170 => (aGuard v168 true (some (g170.1, g170.2)) (some (AV.tuple [], g170.2))).bind fun g172 => (aGuard g172.1 false (aFieldAddr 15 v2 fun v174 => some (v174, g172.2)) (some (AV.tuple [], g172.2))).bind fun g173 => (aGuard g172.1 false (aLoad1 g173.1 g173.2 fun v176 => some (v176, g173.2)) (some (AV.tuple [], g173.2))).bind fun g175 => (aGuard g172.1 false (aLen g175.1 fun v178 => some (v178, g175.2)) (some (AV.tuple [], g175.2))).bind fun g177 => (aGuard g172.1 false (aBin .eql g177.1 (AV.int .i64 0) fun v180 => some (v180, g177.2)) (some (AV.tuple [], g177.2))).bind fun g179 => (aGuard v168 true (aPick g172.1 (AV.bool true) g179.1 fun v182 => some (v182, g179.2)) (some (AV.tuple [], g179.2))).bind fun g181 => aPick v168 g181.1 (AV.bool false) fun v183 => some (v183, g181.2)))
noncomputable abbrev F36.q0 (k : Nat) : Kz := fun fr s => F36.p0 k (fr 0) (fr 1) s
theorem F36.e0 (k : Nat) : F36.X k F36.code (retK Try.prog F36.rs) xN = (F36.q0 k) := lE
noncomputable def F36.f (k : Nat) (a0 a1 : AV) (s : Store) : Rz := F36.p0 k a0 a1 s
theorem F36.eq (k : Nat) (a0 a1 : AV) (s : Store) : rn (k + 1) 36 [a0, a1] s = F36.f k a0 a1 s :=
  (rn_eq Try.func36 (by kernel_rfl) (by kernel_rfl) (by kernel_rfl) k s (by kernel_rfl)).trans (congrFun (congrFun (F36.e0 k) (frOf [a0, a1])) s)

/-! unison/unisonref06.rows: function 39 -/
noncomputable def F39.code : Code := bodyOf Try.f39
noncomputable def F39.rs : List ResultVar := Try.f39.results.toList
noncomputable abbrev F39.X (k : Nat) (c : Code) (n : Kz) (x : Nat → Kz) : Kz := exec Try.prog (rn k) k 15 c ⟨n, x, retK Try.prog F39.rs⟩
noncomputable def F39.p0 (k : Nat) (x0 : AV) (s : Store) : Rz :=
  aLen x0 fun v1 => aBin .leq v1 (AV.int .i64 64) fun v2 => (aGuard v2 true (some (x0, s)) (some (AV.tuple [], s))).bind fun g3 => (aGuard v2 true ((rn k 59 [g3.1] g3.2).bind fun q5 => some (q5.1, q5.2)) (some (AV.tuple [], g3.2))).bind fun g4 => aPick v2 g4.1 (AV.bool false) fun v6 => (aGuard v6 true (some (x0, g4.2)) (some (AV.tuple [], g4.2))).bind fun g7 => (aGuard v6 true ((rn k 60 [g7.1] g7.2).bind fun q9 => some (q9.1, q9.2)) (some (AV.tuple [], g7.2))).bind fun g8 => (aGuard v6 true (aBin .leq g8.1 (AV.int .u64 4096) fun v11 => some (v11, g8.2)) (some (AV.tuple [], g8.2))).bind fun g10 => aPick v6 g10.1 (AV.bool false) fun v12 => some (v12, g10.2)
noncomputable abbrev F39.q0 (k : Nat) : Kz := fun fr s => F39.p0 k (fr 0) s
theorem F39.e0 (k : Nat) : F39.X k F39.code (retK Try.prog F39.rs) xN = (F39.q0 k) := lE
noncomputable def F39.f (k : Nat) (a0 : AV) (s : Store) : Rz := F39.p0 k a0 s
theorem F39.eq (k : Nat) (a0 : AV) (s : Store) : rn (k + 1) 39 [a0] s = F39.f k a0 s :=
  (rn_eq Try.func39 (by kernel_rfl) (by kernel_rfl) (by kernel_rfl) k s (by kernel_rfl)).trans (congrFun (congrFun (F39.e0 k) (frOf [a0])) s)

/-! unison/unisonref06.counts: function 40 -/
noncomputable def F40.code : Code := bodyOf Try.f40
noncomputable def F40.rs : List ResultVar := Try.f40.results.toList
noncomputable abbrev F40.X (k : Nat) (c : Code) (n : Kz) (x : Nat → Kz) : Kz := exec Try.prog (rn k) k 18 c ⟨n, x, retK Try.prog F40.rs⟩
noncomputable abbrev F40.c0 : Code := cR F40.code
noncomputable abbrev F40.c1 : Code := cR F40.c0
noncomputable def F40.p0 (k : Nat) (x0 : AV) (s : Store) : Rz :=
  aLen x0 fun v1 => aBin .leq v1 (AV.int .i64 64) fun v2 => some (v2, s)
noncomputable abbrev F40.q0 (k : Nat) : Kz := fun fr s => F40.p0 k (fr 0) s
theorem F40.e0 (k : Nat) : F40.X k F40.c1 (retK Try.prog F40.rs) xN = (F40.q0 k) := lE
noncomputable abbrev F40.c2 : Code := cL F40.c0
noncomputable abbrev F40.c3 : Code := cR F40.c2
noncomputable abbrev F40.x0 (k : Nat) : Nat → Kz := xB 0 (F40.q0 k) xN
noncomputable abbrev F40.c4 : Code := cB F40.c3
noncomputable abbrev F40.c5 : Code := cB F40.c4
noncomputable abbrev F40.c6 : Code := cR F40.c5
noncomputable abbrev F40.c7 : Code := cR F40.c6
noncomputable abbrev F40.c8 : Code := cR F40.c7
noncomputable def F40.p1 (k : Nat) (R0 : Ar3) (x0 x5 x6 : AV) (s : Store) : Rz :=
  aBin .add x6 (AV.int .i64 1) fun v1 => R0 x0 x5 v1 s
noncomputable abbrev F40.q1 (k : Nat) (R0 : Ar3) : Kz := fun fr s => F40.p1 k R0 (fr 0) (fr 5) (fr 6) s
theorem F40.e1 (k : Nat) (R0 : Ar3) : F40.X k F40.c8 (fun fr s => R0 (fr 0) (fr 5) (fr 6) s) (F40.x0 k) = (F40.q1 k R0) := lE
noncomputable abbrev F40.c9 : Code := cL F40.c7
noncomputable abbrev F40.x1 (k : Nat) (R0 : Ar3) : Nat → Kz := xB 1 (F40.q1 k R0) (F40.x0 k)
noncomputable abbrev F40.c10 : Code := cB F40.c9
noncomputable def F40.p2 (k : Nat) (R0 : Ar3) (x0 x5 x6 : AV) (s : Store) : Rz :=
  aIndexSl 1 x0 x6 fun v1 => aLoad1 v1 s fun v2 => aBin .gtr v2 (AV.int .u64 4611686018427387904) fun v3 => aIf v3 (some ((AV.bool false), s)) (F40.p1 k R0 x0 x5 x6 s)
noncomputable abbrev F40.q2 (k : Nat) (R0 : Ar3) : Kz := fun fr s => F40.p2 k R0 (fr 0) (fr 5) (fr 6) s
theorem F40.e2 (k : Nat) (R0 : Ar3) : F40.X k F40.c10 (F40.q1 k R0) (F40.x1 k R0) = (F40.q2 k R0) := lE
theorem F40.e3 (k : Nat) (R0 : Ar3) : F40.X k F40.c9 (F40.q1 k R0) (F40.x0 k) = (F40.q2 k R0) := blockE (i := 1) (F40.e2 k R0)
theorem F40.e4 (k : Nat) (R0 : Ar3) : F40.X k F40.c7 (fun fr s => R0 (fr 0) (fr 5) (fr 6) s) (F40.x0 k) = (F40.q2 k R0) := seqE (F40.e1 k R0) (F40.e3 k R0)
noncomputable abbrev F40.c11 : Code := cL F40.c6
noncomputable def F40.p3 (k : Nat) (R0 : Ar3) (x0 x5 x6 x7 : AV) (s : Store) : Rz :=
  aIf x7 (F40.p2 k R0 x0 x5 x6 s) (F40.p0 k x0 s)
noncomputable abbrev F40.q3 (k : Nat) (R0 : Ar3) : Kz := fun fr s => F40.p3 k R0 (fr 0) (fr 5) (fr 6) (fr 7) s
theorem F40.e5 (k : Nat) (R0 : Ar3) : F40.X k F40.c11 (F40.q2 k R0) (F40.x0 k) = (F40.q3 k R0) := lE
theorem F40.e6 (k : Nat) (R0 : Ar3) : F40.X k F40.c6 (fun fr s => R0 (fr 0) (fr 5) (fr 6) s) (F40.x0 k) = (F40.q3 k R0) := seqE (F40.e4 k R0) (F40.e5 k R0)
noncomputable abbrev F40.c12 : Code := cL F40.c5
noncomputable def F40.p4 (k : Nat) (R0 : Ar3) (x0 x5 x6 : AV) (s : Store) : Rz :=
  aBin .lss x6 x5 fun v1 => F40.p3 k R0 x0 x5 x6 v1 s
noncomputable abbrev F40.q4 (k : Nat) (R0 : Ar3) : Kz := fun fr s => F40.p4 k R0 (fr 0) (fr 5) (fr 6) s
theorem F40.e7 (k : Nat) (R0 : Ar3) : F40.X k F40.c12 (F40.q3 k R0) (F40.x0 k) = (F40.q4 k R0) := lE
theorem F40.e8 (k : Nat) (R0 : Ar3) : F40.X k F40.c5 (fun fr s => R0 (fr 0) (fr 5) (fr 6) s) (F40.x0 k) = (F40.q4 k R0) := seqE (F40.e6 k R0) (F40.e7 k R0)
noncomputable def F40.l0 (k : Nat) : Nat → Ar3 := iterF (fun _ _ _ _ => none) (fun R0 x0 x5 x6 s => F40.p4 k R0 x0 x5 x6 s)
theorem F40.e9 (k : Nat) : F40.X k F40.c4 (F40.q0 k) (F40.x0 k) = (fun fr s => F40.l0 k k (fr 0) (fr 5) (fr 6) s) := loopE (fun R0 : Ar3 => (fun fr s => R0 (fr 0) (fr 5) (fr 6) s)) (z := (fun _ _ _ _ => none)) (B := (fun R0 x0 x5 x6 s => F40.p4 k R0 x0 x5 x6 s)) rfl (fun R0 => F40.e8 k R0)
theorem F40.e10 (k : Nat) : F40.X k F40.c3 (F40.q0 k) xN = (fun fr s => F40.l0 k k (fr 0) (fr 5) (fr 6) s) := blockE (i := 0) (F40.e9 k)
noncomputable abbrev F40.c13 : Code := cL F40.c2
noncomputable def F40.p5 (k : Nat) (x0 : AV) (s : Store) : Rz :=
  aLen x0 fun v1 => F40.l0 k k x0 v1 (AV.int .i64 0) s
noncomputable abbrev F40.q5 (k : Nat) : Kz := fun fr s => F40.p5 k (fr 0) s
theorem F40.e11 (k : Nat) : F40.X k F40.c13 (fun fr s => F40.l0 k k (fr 0) (fr 5) (fr 6) s) xN = (F40.q5 k) := lE
theorem F40.e12 (k : Nat) : F40.X k F40.c2 (F40.q0 k) xN = (F40.q5 k) := seqE (F40.e10 k) (F40.e11 k)
theorem F40.e13 (k : Nat) : F40.X k F40.c0 (retK Try.prog F40.rs) xN = (F40.q5 k) := seqE (F40.e0 k) (F40.e12 k)
noncomputable abbrev F40.c14 : Code := cL F40.code
noncomputable def F40.p6 (k : Nat) (x0 : AV) (s : Store) : Rz :=
  F40.p5 k x0 s
noncomputable abbrev F40.q6 (k : Nat) : Kz := fun fr s => F40.p6 k (fr 0) s
theorem F40.e14 (k : Nat) : F40.X k F40.c14 (F40.q5 k) xN = (F40.q6 k) := lE
theorem F40.e15 (k : Nat) : F40.X k F40.code (retK Try.prog F40.rs) xN = (F40.q6 k) := seqE (F40.e13 k) (F40.e14 k)
noncomputable def F40.f (k : Nat) (a0 : AV) (s : Store) : Rz := F40.p6 k a0 s
theorem F40.eq (k : Nat) (a0 : AV) (s : Store) : rn (k + 1) 40 [a0] s = F40.f k a0 s :=
  (rn_eq Try.func40 (by kernel_rfl) (by kernel_rfl) (by kernel_rfl) k s (by kernel_rfl)).trans (congrFun (congrFun (F40.e15 k) (frOf [a0])) s)

/-! unison/unisonref06.May: function 16 -/
noncomputable def F16.code : Code := bodyOf Try.f16
noncomputable def F16.rs : List ResultVar := Try.f16.results.toList
noncomputable abbrev F16.X (k : Nat) (c : Code) (n : Kz) (x : Nat → Kz) : Kz := exec Try.prog (rn k) k 131 c ⟨n, x, retK Try.prog F16.rs⟩
noncomputable def F16.p0 (k : Nat) (x0 : AV) (s : Store) : Rz :=
  aCells x0 fun c1 => aNew c1 s fun v2 s3 => aFieldAddr 0 v2 fun v4 => aFieldAddr 0 v4 fun v5 => aLoad1 v5 s3 fun v6 => (rn k 23 [v6] s3).bind fun q7 => aBin .eql q7.1 (AV.str ⟨#[]⟩) fun v8 => (aGuard v8 false (aLoadN 16 v2 q7.2 fun v10 => some (v10, q7.2)) (some (AV.tuple [], q7.2))).bind fun g9 => (aGuard v8 false (some (q7.1, g9.2)) (some (AV.tuple [], g9.2))).bind fun g11 => (aGuard v8 false ((rn k 36 [g9.1, g11.1] g11.2).bind fun q13 => some (q13.1, q13.2)) (some (AV.tuple [], g11.2))).bind fun g12 => (aGuard v8 false (aUn .not g12.1 fun v15 => some (v15, g12.2)) (some (AV.tuple [], g12.2))).bind fun g14 => aPick v8 (AV.bool true) g14.1 fun v16 => (aGuard v16 false (aFieldAddr 0 v2 fun v18 => some (v18, g14.2)) (some (AV.tuple [], g14.2))).bind fun g17 => (aGuard v16 false (aFieldAddr 1 g17.1 fun v20 => some (v20, g17.2)) (some (AV.tuple [], g17.2))).bind fun g19 => (aGuard v16 false (aLoad1 g19.1 g19.2 fun v22 => some (v22, g19.2)) (some (AV.tuple [], g19.2))).bind fun g21 => (aGuard v16 false (aBin .gtr g21.1 (AV.int .u8 63) fun v24 => some (v24, g21.2)) (some (AV.tuple [], g21.2))).bind fun g23 => aPick v16 (AV.bool true) g23.1 fun v25 => (aGuard v25 false (aFieldAddr 0 v2 fun v27 => some (v27, g23.2)) (some (AV.tuple [], g23.2))).bind fun g26 => (aGuard v25 false (aFieldAddr 2 g26.1 fun v29 => some (v29, g26.2)) (some (AV.tuple [], g26.2))).bind fun g28 => (aGuard v25 false (aLoad1 g28.1 g28.2 fun v31 => some (v31, g28.2)) (some (AV.tuple [], g28.2))).bind fun g30 => (aGuard v25 false (aBin .gtr g30.1 (AV.int .u8 63) fun v33 => some (v33, g30.2)) (some (AV.tuple [], g30.2))).bind fun g32 => aPick v25 (AV.bool true) g32.1 fun v34 => (aGuard v34 false (aFieldAddr 0 v2 fun v36 => some (v36, g32.2)) (some (AV.tuple [], g32.2))).bind fun g35 => (aGuard v34 false (aFieldAddr 1 g35.1 fun v38 => some (v38, g35.2)) (some (AV.tuple [], g35.2))).bind fun g37 => (aGuard v34 false (aLoad1 g37.1 g37.2 fun v40 => some (v40, g37.2)) (some (AV.tuple [], g37.2))).bind fun g39 => (aGuard v34 false (aFieldAddr 0 v2 fun v42 => some (v42, g39.2)) (some (AV.tuple [], g39.2))).bind fun g41 => (aGuard v34 false (aFieldAddr 2 g41.1 fun v44 => some (v44, g41.2)) (some (AV.tuple [], g41.2))).bind fun g43 => (aGuard v34 false (aLoad1 g43.1 g43.2 fun v46 => some (v46, g43.2)) (some (AV.tuple [], g43.2))).bind fun g45 => (aGuard v34 false (aBin .eql g39.1 g45.1 fun v48 => some (v48, g45.2)) (some (AV.tuple [], g45.2))).bind fun g47 => aPick v34 (AV.bool true) g47.1 fun v49 => aIf v49 (some ((AV.bool false), g47.2)) (aFieldAddr 5 v2 fun v50 => aLoad1 v50 g47.2 fun v51 => aBin .gtr v51 (AV.int .u64 4611686018427387904) fun v52 => (aGuard v52 false (aFieldAddr 9 v2 fun v54 => some (v54, g47.2)) (some (AV.tuple [], g47.2))).bind fun g53 => (aGuard v52 false (aLoad1 g53.1 g53.2 fun v56 => some (v56, g53.2)) (some (AV.tuple [], g53.2))).bind fun g55 => (aGuard v52 false (aBin .gtr g55.1 (AV.int .u64 4611686018427387904) fun v58 => some (v58, g55.2)) (some (AV.tuple [], g55.2))).bind fun g57 => aPick v52 (AV.bool true) g57.1 fun v59 => (aGuard v59 false (aFieldAddr 10 v2 fun v61 => some (v61, g57.2)) (some (AV.tuple [], g57.2))).bind fun g60 => (aGuard v59 false (aLoad1 g60.1 g60.2 fun v63 => some (v63, g60.2)) (some (AV.tuple [], g60.2))).bind fun g62 => (aGuard v59 false (aBin .gtr g62.1 (AV.int .u64 4611686018427387904) fun v65 => some (v65, g62.2)) (some (AV.tuple [], g62.2))).bind fun g64 => aPick v59 (AV.bool true) g64.1 fun v66 => aIf v66 (some ((AV.bool false), g64.2)) ((rn k 37 [q7.1, (AV.int .u8 105)] g64.2).bind fun q67 => (aGuard q67.1 true (aFieldAddr 0 v2 fun v69 => some (v69, q67.2)) (some (AV.tuple [], q67.2))).bind fun g68 => (aGuard q67.1 true (aFieldAddr 0 g68.1 fun v71 => some (v71, g68.2)) (some (AV.tuple [], g68.2))).bind fun g70 => (aGuard q67.1 true (aLoad1 g70.1 g70.2 fun v73 => some (v73, g70.2)) (some (AV.tuple [], g70.2))).bind fun g72 => (aGuard q67.1 true (aBin .neq g72.1 (AV.int .u8 9) fun v75 => some (v75, g72.2)) (some (AV.tuple [], g72.2))).bind fun g74 => aPick q67.1 g74.1 (AV.bool false) fun v76 => (aGuard v76 true (aFieldAddr 9 v2 fun v78 => some (v78, g74.2)) (some (AV.tuple [], g74.2))).bind fun g77 => (aGuard v76 true (aLoad1 g77.1 g77.2 fun v80 => some (v80, g77.2)) (some (AV.tuple [], g77.2))).bind fun g79 => (aGuard v76 true (aBin .eql g79.1 (AV.int .u64 0) fun v82 => some (v82, g79.2)) (some (AV.tuple [], g79.2))).bind fun g81 => aPick v76 g81.1 (AV.bool false) fun v83 => aIf v83 (some ((AV.bool false), g81.2)) ((rn k 37 [q7.1, (AV.int .u8 100)] g81.2).bind fun q84 => (aGuard q84.1 true (aFieldAddr 3 v2 fun v86 => some (v86, q84.2)) (some (AV.tuple [], q84.2))).bind fun g85 => (aGuard q84.1 true (aLoadN 2 g85.1 g85.2 fun v88 => some (v88, g85.2)) (some (AV.tuple [], g85.2))).bind fun g87 => (aGuard q84.1 true ((rn k 38 [g87.1, (AV.int .i64 64)] g87.2).bind fun q90 => some (q90.1, q90.2)) (some (AV.tuple [], g87.2))).bind fun g89 => (aGuard q84.1 true (aUn .not g89.1 fun v92 => some (v92, g89.2)) (some (AV.tuple [], g89.2))).bind fun g91 => aPick q84.1 g91.1 (AV.bool false) fun v93 => (aGuard v93 false (aFieldAddr 6 v2 fun v95 => some (v95, g91.2)) (some (AV.tuple [], g91.2))).bind fun g94 => (aGuard v93 false (aLoad1 g94.1 g94.2 fun v97 => some (v97, g94.2)) (some (AV.tuple [], g94.2))).bind fun g96 => (aGuard v93 false (aBin .geq g96.1 (AV.int .u32 1048576) fun v99 => some (v99, g96.2)) (some (AV.tuple [], g96.2))).bind fun g98 => aPick v93 (AV.bool true) g98.1 fun v100 => aIf v100 (some ((AV.bool false), g98.2)) ((rn k 37 [q7.1, (AV.int .u8 111)] g98.2).bind fun q101 => (aGuard q101.1 true (aFieldAddr 6 v2 fun v103 => some (v103, q101.2)) (some (AV.tuple [], q101.2))).bind fun g102 => (aGuard q101.1 true (aLoad1 g102.1 g102.2 fun v105 => some (v105, g102.2)) (some (AV.tuple [], g102.2))).bind fun g104 => (aGuard q101.1 true (aFieldAddr 7 v2 fun v107 => some (v107, g104.2)) (some (AV.tuple [], g104.2))).bind fun g106 => (aGuard q101.1 true (aLoad1 g106.1 g106.2 fun v109 => some (v109, g106.2)) (some (AV.tuple [], g106.2))).bind fun g108 => (aGuard q101.1 true (aBin .geq g104.1 g108.1 fun v111 => some (v111, g108.2)) (some (AV.tuple [], g108.2))).bind fun g110 => (aGuard q101.1 true (some (g110.1, g110.2)) (some (AV.tuple [], g110.2))).bind fun g112 => (aGuard g112.1 false (aFieldAddr 7 v2 fun v114 => some (v114, g112.2)) (some (AV.tuple [], g112.2))).bind fun g113 => (aGuard g112.1 false (aLoad1 g113.1 g113.2 fun v116 => some (v116, g113.2)) (some (AV.tuple [], g113.2))).bind fun g115 => (aGuard g112.1 false (aBin .gtr g115.1 (AV.int .u32 1048576) fun v118 => some (v118, g115.2)) (some (AV.tuple [], g115.2))).bind fun g117 => (aGuard q101.1 true (aPick g112.1 (AV.bool true) g117.1 fun v120 => some (v120, g117.2)) (some (AV.tuple [], g117.2))).bind fun g119 => (aGuard q101.1 true (some (g119.1, g119.2)) (some (AV.tuple [], g119.2))).bind fun g121 => (aGuard g121.1 false (aFieldAddr 8 v2 fun v123 => some (v123, g121.2)) (some (AV.tuple [], g121.2))).bind fun g122 => (aGuard g121.1 false (aLoad1 g122.1 g122.2 fun v125 => some (v125, g122.2)) (some (AV.tuple [], g122.2))).bind fun g124 => (aGuard g121.1 false (aBin .gtr g124.1 (AV.int .u32 1048576) fun v127 => some (v127, g124.2)) (some (AV.tuple [], g124.2))).bind fun g126 => (aGuard q101.1 true (aPick g121.1 (AV.bool true) g126.1 fun v129 => some (v129, g126.2)) (some (AV.tuple [], g126.2))).bind fun g128 => (aGuard q101.1 true (some (g128.1, g128.2)) (some (AV.tuple [], g128.2))).bind fun g130 => (aGuard g130.1 false (aFieldAddr 15 v2 fun v132 => some (v132, g130.2)) (some (AV.tuple [], g130.2))).bind fun g131 => (aGuard g130.1 false (aLoad1 g131.1 g131.2 fun v134 => some (v134, g131.2)) (some (AV.tuple [], g131.2))).bind fun g133 => (aGuard g130.1 false (aLen g133.1 fun v136 => some (v136, g133.2)) (some (AV.tuple [], g133.2))).bind fun g135 => (aGuard g130.1 false (aBin .gtr g135.1 (AV.int .i64 65536) fun v138 => some (v138, g135.2)) (some (AV.tuple [], g135.2))).bind fun g137 => (aGuard q101.1 true (aPick g130.1 (AV.bool true) g137.1 fun v140 => some (v140, g137.2)) (some (AV.tuple [], g137.2))).bind fun g139 => aPick q101.1 g139.1 (AV.bool false) fun v141 => aIf v141 (some ((AV.bool false), g139.2)) (aFieldAddr 11 v2 fun v142 => aLoad1 v142 g139.2 fun v143 => (rn k 39 [v143] g139.2).bind fun q144 => (aGuard q144.1 true (aFieldAddr 12 v2 fun v146 => some (v146, q144.2)) (some (AV.tuple [], q144.2))).bind fun g145 => (aGuard q144.1 true (aLoad1 g145.1 g145.2 fun v148 => some (v148, g145.2)) (some (AV.tuple [], g145.2))).bind fun g147 => (aGuard q144.1 true ((rn k 39 [g147.1] g147.2).bind fun q150 => some (q150.1, q150.2)) (some (AV.tuple [], g147.2))).bind fun g149 => aPick q144.1 g149.1 (AV.bool false) fun v151 => (aGuard v151 true (aFieldAddr 13 v2 fun v153 => some (v153, g149.2)) (some (AV.tuple [], g149.2))).bind fun g152 => (aGuard v151 true (aLoad1 g152.1 g152.2 fun v155 => some (v155, g152.2)) (some (AV.tuple [], g152.2))).bind fun g154 => (aGuard v151 true ((rn k 40 [g154.1] g154.2).bind fun q157 => some (q157.1, q157.2)) (some (AV.tuple [], g154.2))).bind fun g156 => aPick v151 g156.1 (AV.bool false) fun v158 => (aGuard v158 true (aFieldAddr 14 v2 fun v160 => some (v160, g156.2)) (some (AV.tuple [], g156.2))).bind fun g159 => (aGuard v158 true (aLoad1 g159.1 g159.2 fun v162 => some (v162, g159.2)) (some (AV.tuple [], g159.2))).bind fun g161 => (aGuard v158 true ((rn k 40 [g161.1] g161.2).bind fun q164 => some (q164.1, q164.2)) (some (AV.tuple [], g161.2))).bind fun g163 => aPick v158 g163.1 (AV.bool false) fun v165 => (aGuard v165 true (aFieldAddr 0 v2 fun v167 => some (v167, g163.2)) (some (AV.tuple [], g163.2))).bind fun g166 => (aGuard v165 true (aFieldAddr 0 g166.1 fun v169 => some (v169, g166.2)) (some (AV.tuple [], g166.2))).bind fun g168 => (aGuard v165 true (aLoad1 g168.1 g168.2 fun v171 => some (v171, g168.2)) (some (AV.tuple [], g168.2))).bind fun g170 => (aGuard v165 true (aBin .neq g170.1 (AV.int .u8 8) fun v173 => some (v173, g170.2)) (some (AV.tuple [], g170.2))).bind fun g172 => (aGuard v165 true (some (g172.1, g172.2)) (some (AV.tuple [], g172.2))).bind fun g174 => (aGuard g174.1 false (aFieldAddr 11 v2 fun v176 => some (v176, g174.2)) (some (AV.tuple [], g174.2))).bind fun g175 => (aGuard g174.1 false (aLoad1 g175.1 g175.2 fun v178 => some (v178, g175.2)) (some (AV.tuple [], g175.2))).bind fun g177 => (aGuard g174.1 false (aLen g177.1 fun v180 => some (v180, g177.2)) (some (AV.tuple [], g177.2))).bind fun g179 => (aGuard g174.1 false (aBin .gtr g179.1 (AV.int .i64 0) fun v182 => some (v182, g179.2)) (some (AV.tuple [], g179.2))).bind fun g181 => (aGuard v165 true (aPick g174.1 (AV.bool true) g181.1 fun v184 => some (v184, g181.2)) (some (AV.tuple [], g181.2))).bind fun g183 => aPick v165 g183.1 (AV.bool false) fun v185 => some (v185, g183.2))))))
noncomputable abbrev F16.q0 (k : Nat) : Kz := fun fr s => F16.p0 k (fr 0) s
theorem F16.e0 (k : Nat) : F16.X k F16.code (retK Try.prog F16.rs) xN = (F16.q0 k) := lE
noncomputable def F16.f (k : Nat) (a0 : AV) (s : Store) : Rz := F16.p0 k a0 s
theorem F16.eq (k : Nat) (a0 : AV) (s : Store) : rn (k + 1) 16 [a0] s = F16.f k a0 s :=
  (rn_eq Try.func16 (by kernel_rfl) (by kernel_rfl) (by kernel_rfl) k s (by kernel_rfl)).trans (congrFun (congrFun (F16.e0 k) (frOf [a0])) s)

/-! unison/unisonref06.takeRuns: function 50 -/
/-! unison/unisonref06.takeNums: function 51 -/
/-! unison/unisonref06.take: function 24 -/
noncomputable def F24.p0 (k : Nat) (x6 x7 : AV) (s : Store) : Rz :=
  aLoadN 16 x6 s fun v1 => aLoadN 2 x7 s fun v2 => some (AV.tuple [v1, v2], s)
noncomputable def F24.p1 (k : Nat) (x3 x5 x6 x7 : AV) (s : Store) : Rz :=
  (aLoadN 16 x3 s fun v2 => some (v2, s)).bind fun q1 => (aLoadN 2 x5 q1.2 fun v4 => some (v4, q1.2)).bind fun q3 => (aStore 16 x6 q1.1 q3.2 fun s6 => some ((AV.tuple []), s6)).bind fun q5 => (aLoadN 2 x5 q5.2 fun v7 => some (v7, q5.2)).bind fun z8 => aSame z8.1 q3.1 <| (aStore 2 x7 q3.1 q5.2 fun s10 => some ((AV.tuple []), s10)).bind fun q9 => F24.p0 k x6 x7 q9.2
/-! unison/unisonref06.Get: function 9 -/
/-! unison/unisonref06.nums: function 27 -/
noncomputable def F27.code : Code := bodyOf Try.f27
noncomputable def F27.rs : List ResultVar := Try.f27.results.toList
noncomputable abbrev F27.X (k : Nat) (c : Code) (n : Kz) (x : Nat → Kz) : Kz := exec Try.prog (rn k) k 23 c ⟨n, x, retK Try.prog F27.rs⟩
noncomputable abbrev F27.c0 : Code := cR F27.code
noncomputable abbrev F27.c1 : Code := cR F27.c0
noncomputable abbrev F27.c2 : Code := cR F27.c1
noncomputable def F27.p0 (k : Nat) (x3 : AV) (s : Store) : Rz :=
  some (x3, s)
noncomputable abbrev F27.q0 (k : Nat) : Kz := fun fr s => F27.p0 k (fr 3) s
theorem F27.e0 (k : Nat) : F27.X k F27.c2 (retK Try.prog F27.rs) xN = (F27.q0 k) := lE
noncomputable abbrev F27.c3 : Code := cL F27.c1
noncomputable abbrev F27.c4 : Code := cR F27.c3
noncomputable abbrev F27.x0 (k : Nat) : Nat → Kz := xB 0 (F27.q0 k) xN
noncomputable abbrev F27.c5 : Code := cB F27.c4
noncomputable abbrev F27.c6 : Code := cB F27.c5
noncomputable abbrev F27.c7 : Code := cR F27.c6
noncomputable abbrev F27.c8 : Code := cR F27.c7
noncomputable abbrev F27.c9 : Code := cR F27.c8
noncomputable def F27.p1 (k : Nat) (R0 : Ar4) (x0 x3 x10 x11 : AV) (s : Store) : Rz :=
  aBin .add x11 (AV.int .i64 1) fun v1 => R0 x0 x3 x10 v1 s
noncomputable abbrev F27.q1 (k : Nat) (R0 : Ar4) : Kz := fun fr s => F27.p1 k R0 (fr 0) (fr 3) (fr 10) (fr 11) s
theorem F27.e1 (k : Nat) (R0 : Ar4) : F27.X k F27.c9 (fun fr s => R0 (fr 0) (fr 3) (fr 10) (fr 11) s) (F27.x0 k) = (F27.q1 k R0) := lE
noncomputable abbrev F27.c10 : Code := cL F27.c8
noncomputable abbrev F27.x1 (k : Nat) (R0 : Ar4) : Nat → Kz := xB 1 (F27.q1 k R0) (F27.x0 k)
noncomputable abbrev F27.c11 : Code := cB F27.c10
noncomputable def F27.p2 (k : Nat) (R0 : Ar4) (x0 x3 x10 x11 : AV) (s : Store) : Rz :=
  aIndexSl 1 x0 x11 fun v1 => aLoad1 v1 s fun v2 => (rn k 29 [v2] s).bind fun q3 => aAppend 1 1 x3 q3.1 q3.2 fun v4 s5 => F27.p1 k R0 x0 v4 x10 x11 s5
noncomputable abbrev F27.q2 (k : Nat) (R0 : Ar4) : Kz := fun fr s => F27.p2 k R0 (fr 0) (fr 3) (fr 10) (fr 11) s
theorem F27.e2 (k : Nat) (R0 : Ar4) : F27.X k F27.c11 (F27.q1 k R0) (F27.x1 k R0) = (F27.q2 k R0) := lE
theorem F27.e3 (k : Nat) (R0 : Ar4) : F27.X k F27.c10 (F27.q1 k R0) (F27.x0 k) = (F27.q2 k R0) := blockE (i := 1) (F27.e2 k R0)
theorem F27.e4 (k : Nat) (R0 : Ar4) : F27.X k F27.c8 (fun fr s => R0 (fr 0) (fr 3) (fr 10) (fr 11) s) (F27.x0 k) = (F27.q2 k R0) := seqE (F27.e1 k R0) (F27.e3 k R0)
noncomputable abbrev F27.c12 : Code := cL F27.c7
noncomputable def F27.p3 (k : Nat) (R0 : Ar4) (x0 x3 x10 x11 x12 : AV) (s : Store) : Rz :=
  aIf x12 (F27.p2 k R0 x0 x3 x10 x11 s) (F27.p0 k x3 s)
noncomputable abbrev F27.q3 (k : Nat) (R0 : Ar4) : Kz := fun fr s => F27.p3 k R0 (fr 0) (fr 3) (fr 10) (fr 11) (fr 12) s
theorem F27.e5 (k : Nat) (R0 : Ar4) : F27.X k F27.c12 (F27.q2 k R0) (F27.x0 k) = (F27.q3 k R0) := lE
theorem F27.e6 (k : Nat) (R0 : Ar4) : F27.X k F27.c7 (fun fr s => R0 (fr 0) (fr 3) (fr 10) (fr 11) s) (F27.x0 k) = (F27.q3 k R0) := seqE (F27.e4 k R0) (F27.e5 k R0)
noncomputable abbrev F27.c13 : Code := cL F27.c6
noncomputable def F27.p4 (k : Nat) (R0 : Ar4) (x0 x3 x10 x11 : AV) (s : Store) : Rz :=
  aBin .lss x11 x10 fun v1 => F27.p3 k R0 x0 x3 x10 x11 v1 s
noncomputable abbrev F27.q4 (k : Nat) (R0 : Ar4) : Kz := fun fr s => F27.p4 k R0 (fr 0) (fr 3) (fr 10) (fr 11) s
theorem F27.e7 (k : Nat) (R0 : Ar4) : F27.X k F27.c13 (F27.q3 k R0) (F27.x0 k) = (F27.q4 k R0) := lE
theorem F27.e8 (k : Nat) (R0 : Ar4) : F27.X k F27.c6 (fun fr s => R0 (fr 0) (fr 3) (fr 10) (fr 11) s) (F27.x0 k) = (F27.q4 k R0) := seqE (F27.e6 k R0) (F27.e7 k R0)
noncomputable def F27.l0 (k : Nat) : Nat → Ar4 := iterF (fun _ _ _ _ _ => none) (fun R0 x0 x3 x10 x11 s => F27.p4 k R0 x0 x3 x10 x11 s)
theorem F27.e9 (k : Nat) : F27.X k F27.c5 (F27.q0 k) (F27.x0 k) = (fun fr s => F27.l0 k k (fr 0) (fr 3) (fr 10) (fr 11) s) := loopE (fun R0 : Ar4 => (fun fr s => R0 (fr 0) (fr 3) (fr 10) (fr 11) s)) (z := (fun _ _ _ _ _ => none)) (B := (fun R0 x0 x3 x10 x11 s => F27.p4 k R0 x0 x3 x10 x11 s)) rfl (fun R0 => F27.e8 k R0)
theorem F27.e10 (k : Nat) : F27.X k F27.c4 (F27.q0 k) xN = (fun fr s => F27.l0 k k (fr 0) (fr 3) (fr 10) (fr 11) s) := blockE (i := 0) (F27.e9 k)
noncomputable abbrev F27.c14 : Code := cL F27.c3
noncomputable def F27.p5 (k : Nat) (x0 x3 : AV) (s : Store) : Rz :=
  aLen x0 fun v1 => F27.l0 k k x0 x3 v1 (AV.int .i64 0) s
noncomputable abbrev F27.q5 (k : Nat) : Kz := fun fr s => F27.p5 k (fr 0) (fr 3) s
theorem F27.e11 (k : Nat) : F27.X k F27.c14 (fun fr s => F27.l0 k k (fr 0) (fr 3) (fr 10) (fr 11) s) xN = (F27.q5 k) := lE
theorem F27.e12 (k : Nat) : F27.X k F27.c3 (F27.q0 k) xN = (F27.q5 k) := seqE (F27.e10 k) (F27.e11 k)
theorem F27.e13 (k : Nat) : F27.X k F27.c1 (retK Try.prog F27.rs) xN = (F27.q5 k) := seqE (F27.e0 k) (F27.e12 k)
noncomputable abbrev F27.c15 : Code := cL F27.c0
noncomputable def F27.p6 (k : Nat) (x0 : AV) (s : Store) : Rz :=
  aLen x0 fun v1 => aConvInt .u64 v1 fun v2 => (rn k 29 [v2] s).bind fun q3 => F27.p5 k x0 q3.1 q3.2
noncomputable abbrev F27.q6 (k : Nat) : Kz := fun fr s => F27.p6 k (fr 0) s
theorem F27.e14 (k : Nat) : F27.X k F27.c15 (F27.q5 k) xN = (F27.q6 k) := lE
theorem F27.e15 (k : Nat) : F27.X k F27.c0 (retK Try.prog F27.rs) xN = (F27.q6 k) := seqE (F27.e13 k) (F27.e14 k)
noncomputable abbrev F27.c16 : Code := cL F27.code
noncomputable def F27.p7 (k : Nat) (x0 : AV) (s : Store) : Rz :=
  F27.p6 k x0 s
noncomputable abbrev F27.q7 (k : Nat) : Kz := fun fr s => F27.p7 k (fr 0) s
theorem F27.e16 (k : Nat) : F27.X k F27.c16 (F27.q6 k) xN = (F27.q7 k) := lE
theorem F27.e17 (k : Nat) : F27.X k F27.code (retK Try.prog F27.rs) xN = (F27.q7 k) := seqE (F27.e15 k) (F27.e16 k)
noncomputable def F27.f (k : Nat) (a0 : AV) (s : Store) : Rz := F27.p7 k a0 s
theorem F27.eq (k : Nat) (a0 : AV) (s : Store) : rn (k + 1) 27 [a0] s = F27.f k a0 s :=
  (rn_eq Try.func27 (by kernel_rfl) (by kernel_rfl) (by kernel_rfl) k s (by kernel_rfl)).trans (congrFun (congrFun (F27.e17 k) (frOf [a0])) s)

/-! unison/unisonref06.Same: function 10 -/
noncomputable def F10.code : Code := bodyOf Try.f10
noncomputable def F10.rs : List ResultVar := Try.f10.results.toList
noncomputable abbrev F10.X (k : Nat) (c : Code) (n : Kz) (x : Nat → Kz) : Kz := exec Try.prog (rn k) k 122 c ⟨n, x, retK Try.prog F10.rs⟩
noncomputable abbrev F10.c0 : Code := cR F10.code
noncomputable abbrev F10.c1 : Code := cR F10.c0
noncomputable abbrev F10.c2 : Code := cR F10.c1
noncomputable def F10.p0 (k : Nat) (x4 : AV) (s : Store) : Rz :=
  some (x4, s)
noncomputable abbrev F10.q0 (k : Nat) : Kz := fun fr s => F10.p0 k (fr 4) s
theorem F10.e0 (k : Nat) : F10.X k F10.c2 (retK Try.prog F10.rs) xN = (F10.q0 k) := lE
noncomputable abbrev F10.c3 : Code := cL F10.c1
noncomputable def F10.p1 (k : Nat) (x2 x3 : AV) (s : Store) : Rz :=
  (aFieldAddr 11 x2 fun v2 => some (v2, s)).bind fun q1 => (aLoad1 q1.1 q1.2 fun v4 => some (v4, q1.2)).bind fun q3 => (aFieldAddr 11 x3 fun v6 => some (v6, q3.2)).bind fun q5 => (aLoad1 q5.1 q5.2 fun v8 => some (v8, q5.2)).bind fun q7 => ((rn k 26 [q3.1, q7.1] q7.2).bind fun q10 => some (q10.1, q10.2)).bind fun q9 => (some (q9.1, q9.2)).bind fun q11 => (aGuard q11.1 true (aFieldAddr 12 x2 fun v13 => some (v13, q11.2)) (some (AV.tuple [], q11.2))).bind fun q12 => (aGuard q11.1 true (aLoad1 q12.1 q12.2 fun v15 => some (v15, q12.2)) (some (AV.tuple [], q12.2))).bind fun q14 => (aGuard q11.1 true (aFieldAddr 12 x3 fun v17 => some (v17, q14.2)) (some (AV.tuple [], q14.2))).bind fun q16 => (aGuard q11.1 true (aLoad1 q16.1 q16.2 fun v19 => some (v19, q16.2)) (some (AV.tuple [], q16.2))).bind fun q18 => (aGuard q11.1 true ((rn k 26 [q14.1, q18.1] q18.2).bind fun q21 => some (q21.1, q21.2)) (some (AV.tuple [], q18.2))).bind fun q20 => (aPick q11.1 q20.1 (AV.bool false) fun v23 => some (v23, q20.2)).bind fun q22 => (some (q22.1, q22.2)).bind fun q24 => (aGuard q24.1 true (aFieldAddr 13 x2 fun v26 => some (v26, q24.2)) (some (AV.tuple [], q24.2))).bind fun q25 => (aGuard q24.1 true (aLoad1 q25.1 q25.2 fun v28 => some (v28, q25.2)) (some (AV.tuple [], q25.2))).bind fun q27 => (aGuard q24.1 true ((rn k 27 [q27.1] q27.2).bind fun q30 => some (q30.1, q30.2)) (some (AV.tuple [], q27.2))).bind fun q29 => (aGuard q24.1 true (aStrOf q29.1 q29.2 fun v32 => some (v32, q29.2)) (some (AV.tuple [], q29.2))).bind fun q31 => (aGuard q24.1 true (aFieldAddr 13 x3 fun v34 => some (v34, q31.2)) (some (AV.tuple [], q31.2))).bind fun q33 => (aGuard q24.1 true (aLoad1 q33.1 q33.2 fun v36 => some (v36, q33.2)) (some (AV.tuple [], q33.2))).bind fun q35 => (aGuard q24.1 true (aLoad1 q33.1 q27.2 fun v37 => some (v37, q27.2)) (some (AV.tuple [], q27.2))).bind fun z38 => aSame z38.1 q35.1 <| (aGuard q24.1 true ((rn k 27 [q35.1] q35.2).bind fun q40 => some (q40.1, q40.2)) (some (AV.tuple [], q35.2))).bind fun q39 => (aGuard q24.1 true (aStrOf q29.1 q39.2 fun v41 => some (v41, q39.2)) (some (AV.tuple [], q39.2))).bind fun z42 => aSame z42.1 q31.1 <| (aGuard q24.1 true (aStrOf q39.1 q39.2 fun v44 => some (v44, q39.2)) (some (AV.tuple [], q39.2))).bind fun q43 => (aGuard q24.1 true (aBin .eql q31.1 q43.1 fun v46 => some (v46, q43.2)) (some (AV.tuple [], q43.2))).bind fun q45 => (aPick q24.1 q45.1 (AV.bool false) fun v48 => some (v48, q45.2)).bind fun q47 => (some (q47.1, q47.2)).bind fun q49 => (aGuard q49.1 true (aFieldAddr 14 x2 fun v51 => some (v51, q49.2)) (some (AV.tuple [], q49.2))).bind fun q50 => (aGuard q49.1 true (aLoad1 q50.1 q50.2 fun v53 => some (v53, q50.2)) (some (AV.tuple [], q50.2))).bind fun q52 => (aGuard q49.1 true ((rn k 27 [q52.1] q52.2).bind fun q55 => some (q55.1, q55.2)) (some (AV.tuple [], q52.2))).bind fun q54 => (aGuard q49.1 true (aStrOf q54.1 q54.2 fun v57 => some (v57, q54.2)) (some (AV.tuple [], q54.2))).bind fun q56 => (aGuard q49.1 true (aFieldAddr 14 x3 fun v59 => some (v59, q56.2)) (some (AV.tuple [], q56.2))).bind fun q58 => (aGuard q49.1 true (aLoad1 q58.1 q58.2 fun v61 => some (v61, q58.2)) (some (AV.tuple [], q58.2))).bind fun q60 => (aGuard q49.1 true (aLoad1 q58.1 q52.2 fun v62 => some (v62, q52.2)) (some (AV.tuple [], q52.2))).bind fun z63 => aSame z63.1 q60.1 <| (aGuard q49.1 true ((rn k 27 [q60.1] q60.2).bind fun q65 => some (q65.1, q65.2)) (some (AV.tuple [], q60.2))).bind fun q64 => (aGuard q49.1 true (aStrOf q54.1 q64.2 fun v66 => some (v66, q64.2)) (some (AV.tuple [], q64.2))).bind fun z67 => aSame z67.1 q56.1 <| (aGuard q49.1 true (aStrOf q64.1 q64.2 fun v69 => some (v69, q64.2)) (some (AV.tuple [], q64.2))).bind fun q68 => (aGuard q49.1 true (aBin .eql q56.1 q68.1 fun v71 => some (v71, q68.2)) (some (AV.tuple [], q68.2))).bind fun q70 => (aPick q49.1 q70.1 (AV.bool false) fun v73 => some (v73, q70.2)).bind fun q72 => (some (q72.1, q72.2)).bind fun q74 => (aGuard q74.1 true (aFieldAddr 15 x2 fun v76 => some (v76, q74.2)) (some (AV.tuple [], q74.2))).bind fun q75 => (aGuard q74.1 true (aLoad1 q75.1 q75.2 fun v78 => some (v78, q75.2)) (some (AV.tuple [], q75.2))).bind fun q77 => (aGuard q74.1 true (aStrOf q77.1 q77.2 fun v80 => some (v80, q77.2)) (some (AV.tuple [], q77.2))).bind fun q79 => (aGuard q74.1 true (aFieldAddr 15 x3 fun v82 => some (v82, q79.2)) (some (AV.tuple [], q79.2))).bind fun q81 => (aGuard q74.1 true (aLoad1 q81.1 q81.2 fun v84 => some (v84, q81.2)) (some (AV.tuple [], q81.2))).bind fun q83 => (aGuard q74.1 true (aStrOf q83.1 q83.2 fun v86 => some (v86, q83.2)) (some (AV.tuple [], q83.2))).bind fun q85 => (aGuard q74.1 true (aBin .eql q79.1 q85.1 fun v88 => some (v88, q85.2)) (some (AV.tuple [], q85.2))).bind fun q87 => (aPick q74.1 q87.1 (AV.bool false) fun v90 => some (v90, q87.2)).bind fun q89 => (some (q89.1, q89.2)).bind fun q91 => F10.p0 k q91.1 q91.2
noncomputable abbrev F10.q1 (k : Nat) : Kz := fun fr s => F10.p1 k (fr 2) (fr 3) s
theorem F10.e1 (k : Nat) : F10.X k F10.c3 (F10.q0 k) xN = (F10.q1 k) := drawE [0, 1, 0, 4, 15, 31, 63, 127, 63, 319, 1023, 2047, 4095, 8191, 16383, 32767, 65535, 8191, 139263, 458751, 983039, 2097151, 4194303, 8388607, 16777215, 33554431, 67108863, 134217727, 16777215, 285212671, 939524095, 2013265919, 4294967295, 8589934591, 17179869183, 34359738367, 68719476735, 137438953471, 34359738367, 309237645311, 858993459199, 2199023255551, 4398046511103, 8796093022207]
theorem F10.e2 (k : Nat) : F10.X k F10.c1 (retK Try.prog F10.rs) xN = (F10.q1 k) := seqE (F10.e0 k) (F10.e1 k)
noncomputable abbrev F10.c4 : Code := cL F10.c0
noncomputable def F10.p2 (k : Nat) (x2 x3 : AV) (s : Store) : Rz :=
  aFieldAddr 0 x2 fun v1 => aFieldAddr 0 v1 fun v2 => aLoad1 v2 s fun v3 => aFieldAddr 0 x3 fun v4 => aFieldAddr 0 v4 fun v5 => aLoad1 v5 s fun v6 => aBin .neq v3 v6 fun v7 => (aGuard v7 false (aFieldAddr 0 x2 fun v9 => some (v9, s)) (some (AV.tuple [], s))).bind fun g8 => (aGuard v7 false (aFieldAddr 1 g8.1 fun v11 => some (v11, g8.2)) (some (AV.tuple [], g8.2))).bind fun g10 => (aGuard v7 false (aLoad1 g10.1 g10.2 fun v13 => some (v13, g10.2)) (some (AV.tuple [], g10.2))).bind fun g12 => (aGuard v7 false (aFieldAddr 0 x3 fun v15 => some (v15, g12.2)) (some (AV.tuple [], g12.2))).bind fun g14 => (aGuard v7 false (aFieldAddr 1 g14.1 fun v17 => some (v17, g14.2)) (some (AV.tuple [], g14.2))).bind fun g16 => (aGuard v7 false (aLoad1 g16.1 g16.2 fun v19 => some (v19, g16.2)) (some (AV.tuple [], g16.2))).bind fun g18 => (aGuard v7 false (aBin .neq g12.1 g18.1 fun v21 => some (v21, g18.2)) (some (AV.tuple [], g18.2))).bind fun g20 => aPick v7 (AV.bool true) g20.1 fun v22 => (aGuard v22 false (aFieldAddr 0 x2 fun v24 => some (v24, g20.2)) (some (AV.tuple [], g20.2))).bind fun g23 => (aGuard v22 false (aFieldAddr 2 g23.1 fun v26 => some (v26, g23.2)) (some (AV.tuple [], g23.2))).bind fun g25 => (aGuard v22 false (aLoad1 g25.1 g25.2 fun v28 => some (v28, g25.2)) (some (AV.tuple [], g25.2))).bind fun g27 => (aGuard v22 false (aFieldAddr 0 x3 fun v30 => some (v30, g27.2)) (some (AV.tuple [], g27.2))).bind fun g29 => (aGuard v22 false (aFieldAddr 2 g29.1 fun v32 => some (v32, g29.2)) (some (AV.tuple [], g29.2))).bind fun g31 => (aGuard v22 false (aLoad1 g31.1 g31.2 fun v34 => some (v34, g31.2)) (some (AV.tuple [], g31.2))).bind fun g33 => (aGuard v22 false (aBin .neq g27.1 g33.1 fun v36 => some (v36, g33.2)) (some (AV.tuple [], g33.2))).bind fun g35 => aPick v22 (AV.bool true) g35.1 fun v37 => (aGuard v37 false (aFieldAddr 3 x2 fun v39 => some (v39, g35.2)) (some (AV.tuple [], g35.2))).bind fun g38 => (aGuard v37 false (aLoadN 2 g38.1 g38.2 fun v41 => some (v41, g38.2)) (some (AV.tuple [], g38.2))).bind fun g40 => (aGuard v37 false (aFieldAddr 3 x3 fun v43 => some (v43, g40.2)) (some (AV.tuple [], g40.2))).bind fun g42 => (aGuard v37 false (aLoadN 2 g42.1 g42.2 fun v45 => some (v45, g42.2)) (some (AV.tuple [], g42.2))).bind fun g44 => (aGuard v37 false (aEq (.struct [.int, .int]) g40.1 g44.1 fun b47 => some ((AV.bool (!b47)), g44.2)) (some (AV.tuple [], g44.2))).bind fun g46 => aPick v37 (AV.bool true) g46.1 fun v48 => (aGuard v48 false (aFieldAddr 5 x2 fun v50 => some (v50, g46.2)) (some (AV.tuple [], g46.2))).bind fun g49 => (aGuard v48 false (aLoad1 g49.1 g49.2 fun v52 => some (v52, g49.2)) (some (AV.tuple [], g49.2))).bind fun g51 => (aGuard v48 false (aFieldAddr 5 x3 fun v54 => some (v54, g51.2)) (some (AV.tuple [], g51.2))).bind fun g53 => (aGuard v48 false (aLoad1 g53.1 g53.2 fun v56 => some (v56, g53.2)) (some (AV.tuple [], g53.2))).bind fun g55 => (aGuard v48 false (aBin .neq g51.1 g55.1 fun v58 => some (v58, g55.2)) (some (AV.tuple [], g55.2))).bind fun g57 => aPick v48 (AV.bool true) g57.1 fun v59 => (aGuard v59 false (aFieldAddr 6 x2 fun v61 => some (v61, g57.2)) (some (AV.tuple [], g57.2))).bind fun g60 => (aGuard v59 false (aLoad1 g60.1 g60.2 fun v63 => some (v63, g60.2)) (some (AV.tuple [], g60.2))).bind fun g62 => (aGuard v59 false (aFieldAddr 6 x3 fun v65 => some (v65, g62.2)) (some (AV.tuple [], g62.2))).bind fun g64 => (aGuard v59 false (aLoad1 g64.1 g64.2 fun v67 => some (v67, g64.2)) (some (AV.tuple [], g64.2))).bind fun g66 => (aGuard v59 false (aBin .neq g62.1 g66.1 fun v69 => some (v69, g66.2)) (some (AV.tuple [], g66.2))).bind fun g68 => aPick v59 (AV.bool true) g68.1 fun v70 => (aGuard v70 false (aFieldAddr 7 x2 fun v72 => some (v72, g68.2)) (some (AV.tuple [], g68.2))).bind fun g71 => (aGuard v70 false (aLoad1 g71.1 g71.2 fun v74 => some (v74, g71.2)) (some (AV.tuple [], g71.2))).bind fun g73 => (aGuard v70 false (aFieldAddr 7 x3 fun v76 => some (v76, g73.2)) (some (AV.tuple [], g73.2))).bind fun g75 => (aGuard v70 false (aLoad1 g75.1 g75.2 fun v78 => some (v78, g75.2)) (some (AV.tuple [], g75.2))).bind fun g77 => (aGuard v70 false (aBin .neq g73.1 g77.1 fun v80 => some (v80, g77.2)) (some (AV.tuple [], g77.2))).bind fun g79 => aPick v70 (AV.bool true) g79.1 fun v81 => (aGuard v81 false (aFieldAddr 8 x2 fun v83 => some (v83, g79.2)) (some (AV.tuple [], g79.2))).bind fun g82 => (aGuard v81 false (aLoad1 g82.1 g82.2 fun v85 => some (v85, g82.2)) (some (AV.tuple [], g82.2))).bind fun g84 => (aGuard v81 false (aFieldAddr 8 x3 fun v87 => some (v87, g84.2)) (some (AV.tuple [], g84.2))).bind fun g86 => (aGuard v81 false (aLoad1 g86.1 g86.2 fun v89 => some (v89, g86.2)) (some (AV.tuple [], g86.2))).bind fun g88 => (aGuard v81 false (aBin .neq g84.1 g88.1 fun v91 => some (v91, g88.2)) (some (AV.tuple [], g88.2))).bind fun g90 => aPick v81 (AV.bool true) g90.1 fun v92 => (aGuard v92 false (aFieldAddr 9 x2 fun v94 => some (v94, g90.2)) (some (AV.tuple [], g90.2))).bind fun g93 => (aGuard v92 false (aLoad1 g93.1 g93.2 fun v96 => some (v96, g93.2)) (some (AV.tuple [], g93.2))).bind fun g95 => (aGuard v92 false (aFieldAddr 9 x3 fun v98 => some (v98, g95.2)) (some (AV.tuple [], g95.2))).bind fun g97 => (aGuard v92 false (aLoad1 g97.1 g97.2 fun v100 => some (v100, g97.2)) (some (AV.tuple [], g97.2))).bind fun g99 => (aGuard v92 false (aBin .neq g95.1 g99.1 fun v102 => some (v102, g99.2)) (some (AV.tuple [], g99.2))).bind fun g101 => aPick v92 (AV.bool true) g101.1 fun v103 => (aGuard v103 false (aFieldAddr 10 x2 fun v105 => some (v105, g101.2)) (some (AV.tuple [], g101.2))).bind fun g104 => (aGuard v103 false (aLoad1 g104.1 g104.2 fun v107 => some (v107, g104.2)) (some (AV.tuple [], g104.2))).bind fun g106 => (aGuard v103 false (aFieldAddr 10 x3 fun v109 => some (v109, g106.2)) (some (AV.tuple [], g106.2))).bind fun g108 => (aGuard v103 false (aLoad1 g108.1 g108.2 fun v111 => some (v111, g108.2)) (some (AV.tuple [], g108.2))).bind fun g110 => (aGuard v103 false (aBin .neq g106.1 g110.1 fun v113 => some (v113, g110.2)) (some (AV.tuple [], g110.2))).bind fun g112 => aPick v103 (AV.bool true) g112.1 fun v114 => aIf v114 (some ((AV.bool false), g112.2)) (F10.p1 k x2 x3 g112.2)
noncomputable abbrev F10.q2 (k : Nat) : Kz := fun fr s => F10.p2 k (fr 2) (fr 3) s
theorem F10.e3 (k : Nat) : F10.X k F10.c4 (F10.q1 k) xN = (F10.q2 k) := lE
theorem F10.e4 (k : Nat) : F10.X k F10.c0 (retK Try.prog F10.rs) xN = (F10.q2 k) := seqE (F10.e2 k) (F10.e3 k)
noncomputable abbrev F10.c5 : Code := cL F10.code
noncomputable def F10.p3 (k : Nat) (x0 x1 : AV) (s : Store) : Rz :=
  aCells x0 fun c1 => aNew c1 s fun v2 s3 => aCells x1 fun c4 => aNew c4 s3 fun v5 s6 => F10.p2 k v2 v5 s6
noncomputable abbrev F10.q3 (k : Nat) : Kz := fun fr s => F10.p3 k (fr 0) (fr 1) s
theorem F10.e5 (k : Nat) : F10.X k F10.c5 (F10.q2 k) xN = (F10.q3 k) := lE
theorem F10.e6 (k : Nat) : F10.X k F10.code (retK Try.prog F10.rs) xN = (F10.q3 k) := seqE (F10.e4 k) (F10.e5 k)
noncomputable def F10.f (k : Nat) (a0 a1 : AV) (s : Store) : Rz := F10.p3 k a0 a1 s
theorem F10.eq (k : Nat) (a0 a1 : AV) (s : Store) : rn (k + 1) 10 [a0, a1] s = F10.f k a0 a1 s :=
  (rn_eq Try.func10 (by kernel_rfl) (by kernel_rfl) (by kernel_rfl) k s (by kernel_rfl)).trans (congrFun (congrFun (F10.e6 k) (frOf [a0, a1])) s)

/-! unison/unisonref06.Whole: function 12 -/
/-! unison/unisonref06.Great: function 15 -/
noncomputable def F15.code : Code := bodyOf Try.f15
noncomputable def F15.rs : List ResultVar := Try.f15.results.toList
noncomputable abbrev F15.X (k : Nat) (c : Code) (n : Kz) (x : Nat → Kz) : Kz := exec Try.prog (rn k) k 31 c ⟨n, x, retK Try.prog F15.rs⟩
noncomputable def F15.p0 (k : Nat) (x0 : AV) (s : Store) : Rz :=
  aCells x0 fun c1 => aNew c1 s fun v2 s3 => aFieldAddr 11 v2 fun v4 => aLoad1 v4 s3 fun v5 => aLen v5 fun v6 => aBin .gtr v6 (AV.int .i64 100) fun v7 => (aGuard v7 false (aFieldAddr 12 v2 fun v9 => some (v9, s3)) (some (AV.tuple [], s3))).bind fun g8 => (aGuard v7 false (aLoad1 g8.1 g8.2 fun v11 => some (v11, g8.2)) (some (AV.tuple [], g8.2))).bind fun g10 => (aGuard v7 false (aLen g10.1 fun v13 => some (v13, g10.2)) (some (AV.tuple [], g10.2))).bind fun g12 => (aGuard v7 false (aBin .gtr g12.1 (AV.int .i64 100) fun v15 => some (v15, g12.2)) (some (AV.tuple [], g12.2))).bind fun g14 => aPick v7 (AV.bool true) g14.1 fun v16 => (aGuard v16 false (aFieldAddr 13 v2 fun v18 => some (v18, g14.2)) (some (AV.tuple [], g14.2))).bind fun g17 => (aGuard v16 false (aLoad1 g17.1 g17.2 fun v20 => some (v20, g17.2)) (some (AV.tuple [], g17.2))).bind fun g19 => (aGuard v16 false (aLen g19.1 fun v22 => some (v22, g19.2)) (some (AV.tuple [], g19.2))).bind fun g21 => (aGuard v16 false (aBin .gtr g21.1 (AV.int .i64 100) fun v24 => some (v24, g21.2)) (some (AV.tuple [], g21.2))).bind fun g23 => aPick v16 (AV.bool true) g23.1 fun v25 => (aGuard v25 false (aFieldAddr 14 v2 fun v27 => some (v27, g23.2)) (some (AV.tuple [], g23.2))).bind fun g26 => (aGuard v25 false (aLoad1 g26.1 g26.2 fun v29 => some (v29, g26.2)) (some (AV.tuple [], g26.2))).bind fun g28 => (aGuard v25 false (aLen g28.1 fun v31 => some (v31, g28.2)) (some (AV.tuple [], g28.2))).bind fun g30 => (aGuard v25 false (aBin .gtr g30.1 (AV.int .i64 100) fun v33 => some (v33, g30.2)) (some (AV.tuple [], g30.2))).bind fun g32 => aPick v25 (AV.bool true) g32.1 fun v34 => (aGuard v34 false (aFieldAddr 15 v2 fun v36 => some (v36, g32.2)) (some (AV.tuple [], g32.2))).bind fun g35 => (aGuard v34 false (aLoad1 g35.1 g35.2 fun v38 => some (v38, g35.2)) (some (AV.tuple [], g35.2))).bind fun g37 => (aGuard v34 false (aLen g37.1 fun v40 => some (v40, g37.2)) (some (AV.tuple [], g37.2))).bind fun g39 => (aGuard v34 false (aBin .gtr g39.1 (AV.int .i64 2000) fun v42 => some (v42, g39.2)) (some (AV.tuple [], g39.2))).bind fun g41 => aPick v34 (AV.bool true) g41.1 fun v43 => some (v43, g41.2)
noncomputable abbrev F15.q0 (k : Nat) : Kz := fun fr s => F15.p0 k (fr 0) s
theorem F15.e0 (k : Nat) : F15.X k F15.code (retK Try.prog F15.rs) xN = (F15.q0 k) := lE
noncomputable def F15.f (k : Nat) (a0 : AV) (s : Store) : Rz := F15.p0 k a0 s
theorem F15.eq (k : Nat) (a0 : AV) (s : Store) : rn (k + 1) 15 [a0] s = F15.f k a0 s :=
  (rn_eq Try.func15 (by kernel_rfl) (by kernel_rfl) (by kernel_rfl) k s (by kernel_rfl)).trans (congrFun (congrFun (F15.e0 k) (frOf [a0])) s)

/-! (unison/wire.reader).data: function 93 -/
noncomputable def F93.code : Code := bodyOf Try.f93
noncomputable def F93.rs : List ResultVar := Try.f93.results.toList
noncomputable abbrev F93.X (k : Nat) (c : Code) (n : Kz) (x : Nat → Kz) : Kz := exec Try.prog (rn k) k 9 c ⟨n, x, retK Try.prog F93.rs⟩
noncomputable def F93.p0 (k : Nat) (x0 x1 : AV) (s : Store) : Rz :=
  aCells x0 fun c1 => aNew c1 s fun v2 s3 => aFieldAddr 0 v2 fun v4 => aLoad1 v4 s3 fun v5 => (rn k 98 [v5, (AV.int .i64 65536)] s3).bind fun q6 => aNilCheck x1 fun v7 => aStore 1 v7 q6.1 q6.2 fun s8 => some (AV.tuple [], s8)
noncomputable abbrev F93.q0 (k : Nat) : Kz := fun fr s => F93.p0 k (fr 0) (fr 1) s
theorem F93.e0 (k : Nat) : F93.X k F93.code (retK Try.prog F93.rs) xN = (F93.q0 k) := lE
noncomputable def F93.f (k : Nat) (a0 a1 : AV) (s : Store) : Rz := F93.p0 k a0 a1 s
theorem F93.eq (k : Nat) (a0 a1 : AV) (s : Store) : rn (k + 1) 93 [a0, a1] s = F93.f k a0 a1 s :=
  (rn_eq Try.func93 (by kernel_rfl) (by kernel_rfl) (by kernel_rfl) k s (by kernel_rfl)).trans (congrFun (congrFun (F93.e0 k) (frOf [a0, a1])) s)

/-! (unison/wire.reader).many: function 94 -/
noncomputable def F94.code : Code := bodyOf Try.f94
noncomputable def F94.rs : List ResultVar := Try.f94.results.toList
noncomputable abbrev F94.X (k : Nat) (c : Code) (n : Kz) (x : Nat → Kz) : Kz := exec Try.prog (rn k) k 9 c ⟨n, x, retK Try.prog F94.rs⟩
noncomputable def F94.p0 (k : Nat) (x0 : AV) (s : Store) : Rz :=
  aCells x0 fun c1 => aNew c1 s fun v2 s3 => aFieldAddr 0 v2 fun v4 => aLoad1 v4 s3 fun v5 => (rn k 42 [v5, (AV.int .u64 64)] s3).bind fun q6 => aConvInt .i64 q6.1 fun v7 => some (v7, q6.2)
noncomputable abbrev F94.q0 (k : Nat) : Kz := fun fr s => F94.p0 k (fr 0) s
theorem F94.e0 (k : Nat) : F94.X k F94.code (retK Try.prog F94.rs) xN = (F94.q0 k) := lE
noncomputable def F94.f (k : Nat) (a0 a1 : AV) (s : Store) : Rz := F94.p0 k a0 s
theorem F94.eq (k : Nat) (a0 a1 : AV) (s : Store) : rn (k + 1) 94 [a0, a1] s = F94.f k a0 a1 s :=
  (rn_eq Try.func94 (by kernel_rfl) (by kernel_rfl) (by kernel_rfl) k s (by kernel_rfl)).trans (congrFun (congrFun (F94.e0 k) (frOf [a0, a1])) s)

/-! (unison/wire.reader).num: function 95 -/
noncomputable def F95.code : Code := bodyOf Try.f95
noncomputable def F95.rs : List ResultVar := Try.f95.results.toList
noncomputable abbrev F95.X (k : Nat) (c : Code) (n : Kz) (x : Nat → Kz) : Kz := exec Try.prog (rn k) k 9 c ⟨n, x, retK Try.prog F95.rs⟩
noncomputable def F95.p0 (k : Nat) (x0 x1 : AV) (s : Store) : Rz :=
  aCells x0 fun c1 => aNew c1 s fun v2 s3 => aFieldAddr 0 v2 fun v4 => aLoad1 v4 s3 fun v5 => (rn k 42 [v5, (AV.int .u64 18446744073709551615)] s3).bind fun q6 => aNilCheck x1 fun v7 => aStore 1 v7 q6.1 q6.2 fun s8 => some (AV.tuple [], s8)
noncomputable abbrev F95.q0 (k : Nat) : Kz := fun fr s => F95.p0 k (fr 0) (fr 1) s
theorem F95.e0 (k : Nat) : F95.X k F95.code (retK Try.prog F95.rs) xN = (F95.q0 k) := lE
noncomputable def F95.f (k : Nat) (a0 a1 : AV) (s : Store) : Rz := F95.p0 k a0 a1 s
theorem F95.eq (k : Nat) (a0 a1 : AV) (s : Store) : rn (k + 1) 95 [a0, a1] s = F95.f k a0 a1 s :=
  (rn_eq Try.func95 (by kernel_rfl) (by kernel_rfl) (by kernel_rfl) k s (by kernel_rfl)).trans (congrFun (congrFun (F95.e0 k) (frOf [a0, a1])) s)

/-! (unison/wire.reader).small: function 96 -/
noncomputable def F96.code : Code := bodyOf Try.f96
noncomputable def F96.rs : List ResultVar := Try.f96.results.toList
noncomputable abbrev F96.X (k : Nat) (c : Code) (n : Kz) (x : Nat → Kz) : Kz := exec Try.prog (rn k) k 10 c ⟨n, x, retK Try.prog F96.rs⟩
noncomputable def F96.p0 (k : Nat) (x0 x1 : AV) (s : Store) : Rz :=
  aCells x0 fun c1 => aNew c1 s fun v2 s3 => aFieldAddr 0 v2 fun v4 => aLoad1 v4 s3 fun v5 => (rn k 42 [v5, (AV.int .u64 4294967295)] s3).bind fun q6 => aConvInt .u32 q6.1 fun v7 => aNilCheck x1 fun v8 => aStore 1 v8 v7 q6.2 fun s9 => some (AV.tuple [], s9)
noncomputable abbrev F96.q0 (k : Nat) : Kz := fun fr s => F96.p0 k (fr 0) (fr 1) s
theorem F96.e0 (k : Nat) : F96.X k F96.code (retK Try.prog F96.rs) xN = (F96.q0 k) := lE
noncomputable def F96.f (k : Nat) (a0 a1 : AV) (s : Store) : Rz := F96.p0 k a0 a1 s
theorem F96.eq (k : Nat) (a0 a1 : AV) (s : Store) : rn (k + 1) 96 [a0, a1] s = F96.f k a0 a1 s :=
  (rn_eq Try.func96 (by kernel_rfl) (by kernel_rfl) (by kernel_rfl) k s (by kernel_rfl)).trans (congrFun (congrFun (F96.e0 k) (frOf [a0, a1])) s)

/-! (unison/wire.reader).who: function 97 -/
noncomputable def F97.code : Code := bodyOf Try.f97
noncomputable def F97.rs : List ResultVar := Try.f97.results.toList
noncomputable abbrev F97.X (k : Nat) (c : Code) (n : Kz) (x : Nat → Kz) : Kz := exec Try.prog (rn k) k 10 c ⟨n, x, retK Try.prog F97.rs⟩
noncomputable def F97.p0 (k : Nat) (x0 x1 : AV) (s : Store) : Rz :=
  aCells x0 fun c1 => aNew c1 s fun v2 s3 => aFieldAddr 0 v2 fun v4 => aLoad1 v4 s3 fun v5 => (rn k 42 [v5, (AV.int .u64 255)] s3).bind fun q6 => aConvInt .u8 q6.1 fun v7 => aNilCheck x1 fun v8 => aStore 1 v8 v7 q6.2 fun s9 => some (AV.tuple [], s9)
noncomputable abbrev F97.q0 (k : Nat) : Kz := fun fr s => F97.p0 k (fr 0) (fr 1) s
theorem F97.e0 (k : Nat) : F97.X k F97.code (retK Try.prog F97.rs) xN = (F97.q0 k) := lE
noncomputable def F97.f (k : Nat) (a0 a1 : AV) (s : Store) : Rz := F97.p0 k a0 a1 s
theorem F97.eq (k : Nat) (a0 a1 : AV) (s : Store) : rn (k + 1) 97 [a0, a1] s = F97.f k a0 a1 s :=
  (rn_eq Try.func97 (by kernel_rfl) (by kernel_rfl) (by kernel_rfl) k s (by kernel_rfl)).trans (congrFun (congrFun (F97.e0 k) (frOf [a0, a1])) s)

/-! (unison/wire.keeper).data: function 105 -/
noncomputable def F105.code : Code := bodyOf Try.f105
noncomputable def F105.rs : List ResultVar := Try.f105.results.toList
noncomputable abbrev F105.X (k : Nat) (c : Code) (n : Kz) (x : Nat → Kz) : Kz := exec Try.prog (rn k) k 6 c ⟨n, x, retK Try.prog F105.rs⟩
noncomputable def F105.p0 (k : Nat) (x0 x1 : AV) (s : Store) : Rz :=
  aCells x0 fun c1 => aNew c1 s fun v2 s3 => aNilCheck x1 fun v4 => aStore 1 v4 AV.nilsl s3 fun s5 => some (AV.tuple [], s5)
noncomputable abbrev F105.q0 (k : Nat) : Kz := fun fr s => F105.p0 k (fr 0) (fr 1) s
theorem F105.e0 (k : Nat) : F105.X k F105.code (retK Try.prog F105.rs) xN = (F105.q0 k) := lE
noncomputable def F105.f (k : Nat) (a0 a1 : AV) (s : Store) : Rz := F105.p0 k a0 a1 s
theorem F105.eq (k : Nat) (a0 a1 : AV) (s : Store) : rn (k + 1) 105 [a0, a1] s = F105.f k a0 a1 s :=
  (rn_eq Try.func105 (by kernel_rfl) (by kernel_rfl) (by kernel_rfl) k s (by kernel_rfl)).trans (congrFun (congrFun (F105.e0 k) (frOf [a0, a1])) s)

/-! (unison/wire.keeper).many: function 106 -/
noncomputable def F106.code : Code := bodyOf Try.f106
noncomputable def F106.rs : List ResultVar := Try.f106.results.toList
noncomputable abbrev F106.X (k : Nat) (c : Code) (n : Kz) (x : Nat → Kz) : Kz := exec Try.prog (rn k) k 5 c ⟨n, x, retK Try.prog F106.rs⟩
noncomputable def F106.p0 (k : Nat) (x0 : AV) (s : Store) : Rz :=
  aCells x0 fun c1 => aNew c1 s fun v2 s3 => some ((AV.int .i64 0), s3)
noncomputable abbrev F106.q0 (k : Nat) : Kz := fun fr s => F106.p0 k (fr 0) s
theorem F106.e0 (k : Nat) : F106.X k F106.code (retK Try.prog F106.rs) xN = (F106.q0 k) := lE
noncomputable def F106.f (k : Nat) (a0 a1 : AV) (s : Store) : Rz := F106.p0 k a0 s
theorem F106.eq (k : Nat) (a0 a1 : AV) (s : Store) : rn (k + 1) 106 [a0, a1] s = F106.f k a0 a1 s :=
  (rn_eq Try.func106 (by kernel_rfl) (by kernel_rfl) (by kernel_rfl) k s (by kernel_rfl)).trans (congrFun (congrFun (F106.e0 k) (frOf [a0, a1])) s)

/-! (unison/wire.keeper).num: function 107 -/
noncomputable def F107.code : Code := bodyOf Try.f107
noncomputable def F107.rs : List ResultVar := Try.f107.results.toList
noncomputable abbrev F107.X (k : Nat) (c : Code) (n : Kz) (x : Nat → Kz) : Kz := exec Try.prog (rn k) k 6 c ⟨n, x, retK Try.prog F107.rs⟩
noncomputable def F107.p0 (k : Nat) (x0 x1 : AV) (s : Store) : Rz :=
  aCells x0 fun c1 => aNew c1 s fun v2 s3 => aNilCheck x1 fun v4 => aStore 1 v4 (AV.int .u64 0) s3 fun s5 => some (AV.tuple [], s5)
noncomputable abbrev F107.q0 (k : Nat) : Kz := fun fr s => F107.p0 k (fr 0) (fr 1) s
theorem F107.e0 (k : Nat) : F107.X k F107.code (retK Try.prog F107.rs) xN = (F107.q0 k) := lE
noncomputable def F107.f (k : Nat) (a0 a1 : AV) (s : Store) : Rz := F107.p0 k a0 a1 s
theorem F107.eq (k : Nat) (a0 a1 : AV) (s : Store) : rn (k + 1) 107 [a0, a1] s = F107.f k a0 a1 s :=
  (rn_eq Try.func107 (by kernel_rfl) (by kernel_rfl) (by kernel_rfl) k s (by kernel_rfl)).trans (congrFun (congrFun (F107.e0 k) (frOf [a0, a1])) s)

/-! (unison/wire.keeper).small: function 108 -/
noncomputable def F108.code : Code := bodyOf Try.f108
noncomputable def F108.rs : List ResultVar := Try.f108.results.toList
noncomputable abbrev F108.X (k : Nat) (c : Code) (n : Kz) (x : Nat → Kz) : Kz := exec Try.prog (rn k) k 6 c ⟨n, x, retK Try.prog F108.rs⟩
noncomputable def F108.p0 (k : Nat) (x0 x1 : AV) (s : Store) : Rz :=
  aCells x0 fun c1 => aNew c1 s fun v2 s3 => aNilCheck x1 fun v4 => aStore 1 v4 (AV.int .u32 0) s3 fun s5 => some (AV.tuple [], s5)
noncomputable abbrev F108.q0 (k : Nat) : Kz := fun fr s => F108.p0 k (fr 0) (fr 1) s
theorem F108.e0 (k : Nat) : F108.X k F108.code (retK Try.prog F108.rs) xN = (F108.q0 k) := lE
noncomputable def F108.f (k : Nat) (a0 a1 : AV) (s : Store) : Rz := F108.p0 k a0 a1 s
theorem F108.eq (k : Nat) (a0 a1 : AV) (s : Store) : rn (k + 1) 108 [a0, a1] s = F108.f k a0 a1 s :=
  (rn_eq Try.func108 (by kernel_rfl) (by kernel_rfl) (by kernel_rfl) k s (by kernel_rfl)).trans (congrFun (congrFun (F108.e0 k) (frOf [a0, a1])) s)

/-! (unison/wire.keeper).who: function 109 -/
noncomputable def F109.code : Code := bodyOf Try.f109
noncomputable def F109.rs : List ResultVar := Try.f109.results.toList
noncomputable abbrev F109.X (k : Nat) (c : Code) (n : Kz) (x : Nat → Kz) : Kz := exec Try.prog (rn k) k 6 c ⟨n, x, retK Try.prog F109.rs⟩
noncomputable def F109.p0 (k : Nat) (x0 x1 : AV) (s : Store) : Rz :=
  aCells x0 fun c1 => aNew c1 s fun v2 s3 => aNilCheck x1 fun v4 => aStore 1 v4 (AV.int .u8 0) s3 fun s5 => some (AV.tuple [], s5)
noncomputable abbrev F109.q0 (k : Nat) : Kz := fun fr s => F109.p0 k (fr 0) (fr 1) s
theorem F109.e0 (k : Nat) : F109.X k F109.code (retK Try.prog F109.rs) xN = (F109.q0 k) := lE
noncomputable def F109.f (k : Nat) (a0 a1 : AV) (s : Store) : Rz := F109.p0 k a0 a1 s
theorem F109.eq (k : Nat) (a0 a1 : AV) (s : Store) : rn (k + 1) 109 [a0, a1] s = F109.f k a0 a1 s :=
  (rn_eq Try.func109 (by kernel_rfl) (by kernel_rfl) (by kernel_rfl) k s (by kernel_rfl)).trans (congrFun (congrFun (F109.e0 k) (frOf [a0, a1])) s)

/-! (*unison/wire.writer).data: function 99 -/
noncomputable def F99.code : Code := bodyOf Try.f99
noncomputable def F99.rs : List ResultVar := Try.f99.results.toList
noncomputable abbrev F99.X (k : Nat) (c : Code) (n : Kz) (x : Nat → Kz) : Kz := exec Try.prog (rn k) k 16 c ⟨n, x, retK Try.prog F99.rs⟩
noncomputable def F99.p0 (k : Nat) (x0 x1 : AV) (s : Store) : Rz :=
  (some (x0, s)).bind fun q1 => (some (x0, q1.2)).bind fun q2 => (aNilCheck q2.1 fun v4 => some (v4, q2.2)).bind fun q3 => (aFieldAddr 0 q3.1 fun v6 => some (v6, q3.2)).bind fun q5 => (aLoad1 q5.1 q5.2 fun v8 => some (v8, q5.2)).bind fun q7 => (some (x1, q7.2)).bind fun q9 => (aNilCheck q9.1 fun v11 => some (v11, q9.2)).bind fun q10 => (aLoad1 q10.1 q10.2 fun v13 => some (v13, q10.2)).bind fun q12 => (aBuild [(0, 1, q12.1)] [AV.nilsl] fun c15 => some ((AV.sl q12.2.next 0 1 1 1), (q12.2.push (.cells c15 false)))).bind fun q14 => (aLoad1 q5.1 q14.2 fun v16 => some (v16, q14.2)).bind fun z17 => aSame z17.1 q7.1 <| ((rn k 104 [q7.1, q14.1] q14.2).bind fun q19 => some (q19.1, q19.2)).bind fun q18 => (aNilCheck q1.1 fun v21 => some (v21, q18.2)).bind fun q20 => (aFieldAddr 0 q20.1 fun v23 => some (v23, q20.2)).bind fun q22 => (aStore 1 q22.1 q18.1 q22.2 fun s25 => some ((AV.tuple []), s25)).bind fun q24 => some (AV.tuple [], q24.2)
noncomputable abbrev F99.q0 (k : Nat) : Kz := fun fr s => F99.p0 k (fr 0) (fr 1) s
theorem F99.e0 (k : Nat) : F99.X k F99.code (retK Try.prog F99.rs) xN = (F99.q0 k) := drawE [0, 0, 2, 6, 14, 0, 32, 96, 224, 510, 1023, 2047, 4095]
noncomputable def F99.f (k : Nat) (a0 a1 : AV) (s : Store) : Rz := F99.p0 k a0 a1 s
theorem F99.eq (k : Nat) (a0 a1 : AV) (s : Store) : rn (k + 1) 99 [a0, a1] s = F99.f k a0 a1 s :=
  (rn_eq Try.func99 (by kernel_rfl) (by kernel_rfl) (by kernel_rfl) k s (by kernel_rfl)).trans (congrFun (congrFun (F99.e0 k) (frOf [a0, a1])) s)

/-! (*unison/wire.writer).many: function 100 -/
noncomputable def F100.code : Code := bodyOf Try.f100
noncomputable def F100.rs : List ResultVar := Try.f100.results.toList
noncomputable abbrev F100.X (k : Nat) (c : Code) (n : Kz) (x : Nat → Kz) : Kz := exec Try.prog (rn k) k 17 c ⟨n, x, retK Try.prog F100.rs⟩
noncomputable def F100.p0 (k : Nat) (x0 x1 : AV) (s : Store) : Rz :=
  aNilCheck x0 fun v1 => aFieldAddr 0 v1 fun v2 => aLoad1 v2 s fun v3 => aConvInt .u64 x1 fun v4 => aBuild [(0, 1, v4)] [AV.int .u64 0] fun c5 => (rn k 31 [v3, (AV.sl s.next 0 1 1 1)] (s.push (.cells c5 false))).bind fun q6 => aNilCheck x0 fun v7 => aFieldAddr 0 v7 fun v8 => aStore 1 v8 q6.1 q6.2 fun s9 => some (x1, s9)
noncomputable abbrev F100.q0 (k : Nat) : Kz := fun fr s => F100.p0 k (fr 0) (fr 1) s
theorem F100.e0 (k : Nat) : F100.X k F100.code (retK Try.prog F100.rs) xN = (F100.q0 k) := lE
noncomputable def F100.f (k : Nat) (a0 a1 : AV) (s : Store) : Rz := F100.p0 k a0 a1 s
theorem F100.eq (k : Nat) (a0 a1 : AV) (s : Store) : rn (k + 1) 100 [a0, a1] s = F100.f k a0 a1 s :=
  (rn_eq Try.func100 (by kernel_rfl) (by kernel_rfl) (by kernel_rfl) k s (by kernel_rfl)).trans (congrFun (congrFun (F100.e0 k) (frOf [a0, a1])) s)

/-! (*unison/wire.writer).num: function 101 -/
noncomputable def F101.code : Code := bodyOf Try.f101
noncomputable def F101.rs : List ResultVar := Try.f101.results.toList
noncomputable abbrev F101.X (k : Nat) (c : Code) (n : Kz) (x : Nat → Kz) : Kz := exec Try.prog (rn k) k 16 c ⟨n, x, retK Try.prog F101.rs⟩
noncomputable def F101.p0 (k : Nat) (x0 x1 : AV) (s : Store) : Rz :=
  (some (x0, s)).bind fun q1 => (some (x0, q1.2)).bind fun q2 => (aNilCheck q2.1 fun v4 => some (v4, q2.2)).bind fun q3 => (aFieldAddr 0 q3.1 fun v6 => some (v6, q3.2)).bind fun q5 => (aLoad1 q5.1 q5.2 fun v8 => some (v8, q5.2)).bind fun q7 => (some (x1, q7.2)).bind fun q9 => (aNilCheck q9.1 fun v11 => some (v11, q9.2)).bind fun q10 => (aLoad1 q10.1 q10.2 fun v13 => some (v13, q10.2)).bind fun q12 => (aBuild [(0, 1, q12.1)] [AV.int .u64 0] fun c15 => some ((AV.sl q12.2.next 0 1 1 1), (q12.2.push (.cells c15 false)))).bind fun q14 => (aLoad1 q5.1 q14.2 fun v16 => some (v16, q14.2)).bind fun z17 => aSame z17.1 q7.1 <| ((rn k 31 [q7.1, q14.1] q14.2).bind fun q19 => some (q19.1, q19.2)).bind fun q18 => (aNilCheck q1.1 fun v21 => some (v21, q18.2)).bind fun q20 => (aFieldAddr 0 q20.1 fun v23 => some (v23, q20.2)).bind fun q22 => (aStore 1 q22.1 q18.1 q22.2 fun s25 => some ((AV.tuple []), s25)).bind fun q24 => some (AV.tuple [], q24.2)
noncomputable abbrev F101.q0 (k : Nat) : Kz := fun fr s => F101.p0 k (fr 0) (fr 1) s
theorem F101.e0 (k : Nat) : F101.X k F101.code (retK Try.prog F101.rs) xN = (F101.q0 k) := drawE [0, 0, 2, 6, 14, 0, 32, 96, 224, 510, 1023, 2047, 4095]
noncomputable def F101.f (k : Nat) (a0 a1 : AV) (s : Store) : Rz := F101.p0 k a0 a1 s
theorem F101.eq (k : Nat) (a0 a1 : AV) (s : Store) : rn (k + 1) 101 [a0, a1] s = F101.f k a0 a1 s :=
  (rn_eq Try.func101 (by kernel_rfl) (by kernel_rfl) (by kernel_rfl) k s (by kernel_rfl)).trans (congrFun (congrFun (F101.e0 k) (frOf [a0, a1])) s)

/-! (*unison/wire.writer).small: function 102 -/
noncomputable def F102.code : Code := bodyOf Try.f102
noncomputable def F102.rs : List ResultVar := Try.f102.results.toList
noncomputable abbrev F102.X (k : Nat) (c : Code) (n : Kz) (x : Nat → Kz) : Kz := exec Try.prog (rn k) k 17 c ⟨n, x, retK Try.prog F102.rs⟩
noncomputable def F102.p0 (k : Nat) (x0 x1 : AV) (s : Store) : Rz :=
  (some (x0, s)).bind fun q1 => (some (x0, q1.2)).bind fun q2 => (aNilCheck q2.1 fun v4 => some (v4, q2.2)).bind fun q3 => (aFieldAddr 0 q3.1 fun v6 => some (v6, q3.2)).bind fun q5 => (aLoad1 q5.1 q5.2 fun v8 => some (v8, q5.2)).bind fun q7 => (some (x1, q7.2)).bind fun q9 => (aNilCheck q9.1 fun v11 => some (v11, q9.2)).bind fun q10 => (aLoad1 q10.1 q10.2 fun v13 => some (v13, q10.2)).bind fun q12 => (aConvInt .u64 q12.1 fun v15 => some (v15, q12.2)).bind fun q14 => (aBuild [(0, 1, q14.1)] [AV.int .u64 0] fun c17 => some ((AV.sl q14.2.next 0 1 1 1), (q14.2.push (.cells c17 false)))).bind fun q16 => (aLoad1 q5.1 q16.2 fun v18 => some (v18, q16.2)).bind fun z19 => aSame z19.1 q7.1 <| ((rn k 31 [q7.1, q16.1] q16.2).bind fun q21 => some (q21.1, q21.2)).bind fun q20 => (aNilCheck q1.1 fun v23 => some (v23, q20.2)).bind fun q22 => (aFieldAddr 0 q22.1 fun v25 => some (v25, q22.2)).bind fun q24 => (aStore 1 q24.1 q20.1 q24.2 fun s27 => some ((AV.tuple []), s27)).bind fun q26 => some (AV.tuple [], q26.2)
noncomputable abbrev F102.q0 (k : Nat) : Kz := fun fr s => F102.p0 k (fr 0) (fr 1) s
theorem F102.e0 (k : Nat) : F102.X k F102.code (retK Try.prog F102.rs) xN = (F102.q0 k) := drawE [0, 0, 2, 6, 14, 0, 32, 96, 224, 480, 1022, 2047, 4095, 8191]
noncomputable def F102.f (k : Nat) (a0 a1 : AV) (s : Store) : Rz := F102.p0 k a0 a1 s
theorem F102.eq (k : Nat) (a0 a1 : AV) (s : Store) : rn (k + 1) 102 [a0, a1] s = F102.f k a0 a1 s :=
  (rn_eq Try.func102 (by kernel_rfl) (by kernel_rfl) (by kernel_rfl) k s (by kernel_rfl)).trans (congrFun (congrFun (F102.e0 k) (frOf [a0, a1])) s)

/-! (*unison/wire.writer).who: function 103 -/
noncomputable def F103.code : Code := bodyOf Try.f103
noncomputable def F103.rs : List ResultVar := Try.f103.results.toList
noncomputable abbrev F103.X (k : Nat) (c : Code) (n : Kz) (x : Nat → Kz) : Kz := exec Try.prog (rn k) k 17 c ⟨n, x, retK Try.prog F103.rs⟩
noncomputable def F103.p0 (k : Nat) (x0 x1 : AV) (s : Store) : Rz :=
  (some (x0, s)).bind fun q1 => (some (x0, q1.2)).bind fun q2 => (aNilCheck q2.1 fun v4 => some (v4, q2.2)).bind fun q3 => (aFieldAddr 0 q3.1 fun v6 => some (v6, q3.2)).bind fun q5 => (aLoad1 q5.1 q5.2 fun v8 => some (v8, q5.2)).bind fun q7 => (some (x1, q7.2)).bind fun q9 => (aNilCheck q9.1 fun v11 => some (v11, q9.2)).bind fun q10 => (aLoad1 q10.1 q10.2 fun v13 => some (v13, q10.2)).bind fun q12 => (aConvInt .u64 q12.1 fun v15 => some (v15, q12.2)).bind fun q14 => (aBuild [(0, 1, q14.1)] [AV.int .u64 0] fun c17 => some ((AV.sl q14.2.next 0 1 1 1), (q14.2.push (.cells c17 false)))).bind fun q16 => (aLoad1 q5.1 q16.2 fun v18 => some (v18, q16.2)).bind fun z19 => aSame z19.1 q7.1 <| ((rn k 31 [q7.1, q16.1] q16.2).bind fun q21 => some (q21.1, q21.2)).bind fun q20 => (aNilCheck q1.1 fun v23 => some (v23, q20.2)).bind fun q22 => (aFieldAddr 0 q22.1 fun v25 => some (v25, q22.2)).bind fun q24 => (aStore 1 q24.1 q20.1 q24.2 fun s27 => some ((AV.tuple []), s27)).bind fun q26 => some (AV.tuple [], q26.2)
noncomputable abbrev F103.q0 (k : Nat) : Kz := fun fr s => F103.p0 k (fr 0) (fr 1) s
theorem F103.e0 (k : Nat) : F103.X k F103.code (retK Try.prog F103.rs) xN = (F103.q0 k) := drawE [0, 0, 2, 6, 14, 0, 32, 96, 224, 480, 1022, 2047, 4095, 8191]
noncomputable def F103.f (k : Nat) (a0 a1 : AV) (s : Store) : Rz := F103.p0 k a0 a1 s
theorem F103.eq (k : Nat) (a0 a1 : AV) (s : Store) : rn (k + 1) 103 [a0, a1] s = F103.f k a0 a1 s :=
  (rn_eq Try.func103 (by kernel_rfl) (by kernel_rfl) (by kernel_rfl) k s (by kernel_rfl)).trans (congrFun (congrFun (F103.e0 k) (frOf [a0, a1])) s)
end Go.Proofs.Ytkfdgegmahbkiaa.Sim
