/- What the translated functions' runs on the abstract machine come to, by the session's program. No condition. -/
import Derived.Test.YtkfdgegmahbkiaaProg
import Derived.Test.YtkfdgegmahbkiaaSimR
import Derived.Test.YtkfdgegmahbkiaaSpRn
import Derived.Test.YtkfdgegmahbkiaaFunB
import Derived.KernelRfl
namespace Go.Proofs.Ytkfdgegmahbkiaa.Sim
set_option linter.unusedVariables false
set_option maxRecDepth 100000
/-! unison/unisonlaw06.WireOne: function 5 -/
noncomputable def F5.code : Code := bodyOf Try.f5
noncomputable def F5.rs : List ResultVar := Try.f5.results.toList
noncomputable abbrev F5.X (k : Nat) (c : Code) (n : Kz) (x : Nat → Kz) : Kz := exec Try.prog (rn k) k 45 c ⟨n, x, retK Try.prog F5.rs⟩
noncomputable def F5.p0 (k : Nat) (x0 : AV) (s : Store) : Rz :=
  aLen x0 fun v1 => aBin .gtr v1 (AV.int .i64 3000) fun v2 => aIf v2 ((rn k 7 [] s).bind fun q3 => some (q3.1, q3.2)) ((rn k 8 [x0] s).bind fun q4 => aExtract 0 q4.1 fun v5 => aExtract 1 q4.1 fun v6 => aNew [AV.int .u8 0, AV.int .u8 0, AV.int .u8 0, AV.int .u8 0, AV.int .u64 0, AV.int .u64 0, AV.int .u32 0, AV.int .u32 0, AV.int .u32 0, AV.int .u64 0, AV.int .u64 0, AV.nilsl, AV.nilsl, AV.nilsl, AV.nilsl, AV.nilsl] q4.2 fun v7 s8 => aStore 16 v7 v5 s8 fun s9 => aBin .neq v6 (AV.int .i64 0) fun v10 => aIf v10 (aLoadN 16 v7 s9 fun v11 => aBuild [] [AV.int .u8 0, AV.int .u8 0, AV.int .u8 0, AV.int .u8 0, AV.int .u64 0, AV.int .u64 0, AV.int .u32 0, AV.int .u32 0, AV.int .u32 0, AV.int .u64 0, AV.int .u64 0, AV.nilsl, AV.nilsl, AV.nilsl, AV.nilsl, AV.nilsl] fun c12 => (rn k 10 [v11, (AV.agg c12)] s9).bind fun q13 => (aGuard q13.1 true ((rn k 7 [] q13.2).bind fun q15 => some (q15.1, q15.2)) (some (AV.tuple [], q13.2))).bind fun g14 => aPick q13.1 g14.1 (AV.bool false) fun v16 => some (v16, g14.2)) (aLoadN 16 v7 s9 fun v17 => (rn k 13 [v17] s9).bind fun q18 => aExtract 0 q18.1 fun v19 => aExtract 1 q18.1 fun v20 => aLoadN 16 v7 q18.2 fun v21 => (rn k 14 [v21] q18.2).bind fun q22 => (aGuard q22.1 true (some (v20, q22.2)) (some (AV.tuple [], q22.2))).bind fun g23 => (aGuard q22.1 true (aBin .eql g23.1 (AV.int .i64 0) fun v25 => some (v25, g23.2)) (some (AV.tuple [], g23.2))).bind fun g24 => aPick q22.1 g24.1 (AV.bool false) fun v26 => (aGuard v26 true (some (v19, g24.2)) (some (AV.tuple [], g24.2))).bind fun g27 => (aGuard v26 true (aStrOf g27.1 g27.2 fun v29 => some (v29, g27.2)) (some (AV.tuple [], g27.2))).bind fun g28 => (aGuard v26 true (some (x0, g28.2)) (some (AV.tuple [], g28.2))).bind fun g30 => (aGuard v26 true (aStrOf g30.1 g30.2 fun v32 => some (v32, g30.2)) (some (AV.tuple [], g30.2))).bind fun g31 => (aGuard v26 true (aBin .eql g28.1 g31.1 fun v34 => some (v34, g31.2)) (some (AV.tuple [], g31.2))).bind fun g33 => aPick v26 g33.1 (AV.bool false) fun v35 => (aGuard v35 true ((rn k 7 [] g33.2).bind fun q37 => some (q37.1, q37.2)) (some (AV.tuple [], g33.2))).bind fun g36 => aPick v35 g36.1 (AV.bool false) fun v38 => some (v38, g36.2)))
noncomputable abbrev F5.q0 (k : Nat) : Kz := fun fr s => F5.p0 k (fr 0) s
theorem F5.e0 (k : Nat) : F5.X k F5.code (retK Try.prog F5.rs) xN = (F5.q0 k) := lE
noncomputable def F5.f (k : Nat) (a0 : AV) (s : Store) : Rz := F5.p0 k a0 s
theorem F5.eq (k : Nat) (a0 : AV) (s : Store) : rn (k + 1) 5 [a0] s = F5.f k a0 s :=
  (rn_eq Try.func5 (by kernel_rfl) (by kernel_rfl) (by kernel_rfl) k s (by kernel_rfl)).trans (congrFun (congrFun (F5.e0 k) (frOf [a0])) s)
end Go.Proofs.Ytkfdgegmahbkiaa.Sim
