/- What the translated functions' runs on the abstract machine come to, by the session's program. No condition. -/
import Derived.Test.YtkfdgegmahbkiaaProg
import Derived.Test.YtkfdgegmahbkiaaSimR
import Derived.Test.YtkfdgegmahbkiaaSpRn
import Derived.Test.YtkfdgegmahbkiaaFunB
import Derived.KernelRfl
namespace Go.Proofs.Ytkfdgegmahbkiaa.Sim
set_option linter.unusedVariables false
set_option maxRecDepth 100000
/-! unison/unisonlaw06.WireGets: function 3 -/
noncomputable def F3.code : Code := bodyOf Try.f3
noncomputable def F3.rs : List ResultVar := Try.f3.results.toList
noncomputable abbrev F3.X (k : Nat) (c : Code) (n : Kz) (x : Nat → Kz) : Kz := exec Try.prog (rn k) k 32 c ⟨n, x, retK Try.prog F3.rs⟩
noncomputable def F3.p0 (k : Nat) (x0 : AV) (s : Store) : Rz :=
  aLen x0 fun v1 => aBin .gtr v1 (AV.int .i64 3000) fun v2 => aIf v2 ((rn k 7 [] s).bind fun q3 => some (q3.1, q3.2)) ((rn k 8 [x0] s).bind fun q4 => aExtract 0 q4.1 fun v5 => aExtract 1 q4.1 fun v6 => aNew [AV.int .u8 0, AV.int .u8 0, AV.int .u8 0, AV.int .u8 0, AV.int .u64 0, AV.int .u64 0, AV.int .u32 0, AV.int .u32 0, AV.int .u32 0, AV.int .u64 0, AV.int .u64 0, AV.nilsl, AV.nilsl, AV.nilsl, AV.nilsl, AV.nilsl] q4.2 fun v7 s8 => aStore 16 v7 v5 s8 fun s9 => (rn k 9 [x0] s9).bind fun q10 => aExtract 0 q10.1 fun v11 => aExtract 1 q10.1 fun v12 => aNew [AV.int .u8 0, AV.int .u8 0, AV.int .u8 0, AV.int .u8 0, AV.int .u64 0, AV.int .u64 0, AV.int .u32 0, AV.int .u32 0, AV.int .u32 0, AV.int .u64 0, AV.int .u64 0, AV.nilsl, AV.nilsl, AV.nilsl, AV.nilsl, AV.nilsl] q10.2 fun v13 s14 => aStore 16 v13 v11 s14 fun s15 => aBin .eql v6 v12 fun v16 => (aGuard v16 true (aLoadN 16 v7 s15 fun v18 => some (v18, s15)) (some (AV.tuple [], s15))).bind fun g17 => (aGuard v16 true (aLoadN 16 v13 g17.2 fun v20 => some (v20, g17.2)) (some (AV.tuple [], g17.2))).bind fun g19 => (aGuard v16 true ((rn k 10 [g17.1, g19.1] g19.2).bind fun q22 => some (q22.1, q22.2)) (some (AV.tuple [], g19.2))).bind fun g21 => aPick v16 g21.1 (AV.bool false) fun v23 => (aGuard v23 true ((rn k 7 [] g21.2).bind fun q25 => some (q25.1, q25.2)) (some (AV.tuple [], g21.2))).bind fun g24 => aPick v23 g24.1 (AV.bool false) fun v26 => some (v26, g24.2))
noncomputable abbrev F3.q0 (k : Nat) : Kz := fun fr s => F3.p0 k (fr 0) s
theorem F3.e0 (k : Nat) : F3.X k F3.code (retK Try.prog F3.rs) xN = (F3.q0 k) := lE
noncomputable def F3.f (k : Nat) (a0 : AV) (s : Store) : Rz := F3.p0 k a0 s
theorem F3.eq (k : Nat) (a0 : AV) (s : Store) : rn (k + 1) 3 [a0] s = F3.f k a0 s :=
  (rn_eq Try.func3 (by kernel_rfl) (by kernel_rfl) (by kernel_rfl) k s (by kernel_rfl)).trans (congrFun (congrFun (F3.e0 k) (frOf [a0])) s)
end Go.Proofs.Ytkfdgegmahbkiaa.Sim
