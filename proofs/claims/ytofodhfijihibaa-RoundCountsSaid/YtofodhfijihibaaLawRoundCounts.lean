/- The row of the law RoundCounts, out of its walk (YtofodhfijihibaaPureRoundCounts). No condition beyond the row's own. -/
import Derived.Test.YtofodhfijihibaaRows
import Derived.Test.YtofodhfijihibaaOpen
import Derived.Test.YtofodhfijihibaaPureRoundCounts
import Derived.WalkKit
import Derived.ProofKit
import Derived.OpenShut
import Derived.ShutString
import Derived.ChangeOld
import Derived.Below
import Derived.SizedLaws
import Derived.Carry
namespace Go.Proofs.Ytofodhfijihibaa.roundCounts
open Go.ChangeShapes Go.WideShapes Go.ChangeAt Go.RowKit Go.Proofs.YtofodhfijihibaaW.PrintWords Go.Proofs.Ytofodhfijihibaa.PRoundCounts
set_option linter.unusedVariables false
theorem op56 : Open.Op Try.prog 56 k56 (fun x : S56 => ((Lit.int .u8 x.f0).wf = true ∧ (Lit.int .u64 x.f1).wf = true ∧ (Lit.int .u64 x.f2).wf = true)) :=
  Open.op_struct Try.underlying56 (by kernel_rfl) (Open.opf_cons rfl (Open.op_int Try.underlying5 (by kernel_rfl)) (by decide) (Open.opf_cons rfl (Open.op_int Try.underlying28 (by kernel_rfl)) (by decide) (Open.opf_one rfl (Open.op_int Try.underlying28 (by kernel_rfl))))) (fun x : S56 => (x.f0, (x.f1, x.f2))) (fun a => ⟨a.1, a.2.1, a.2.2⟩) (fun _ => rfl)
theorem own : ownKnob Try.prog.godebug = none := by kernel_rfl
theorem laidOut : laidOutB Try.prog = true := by kernel_rfl
set_option maxRecDepth 100000 in
theorem lifted (os : Os) (started : os.Started) (H : Type) (enc : TypeId × Value → H) :
    ReturnsInHanded {} Try.checked os 7 .any (Rows.roundCountsSpec.pre6 enc Try.prog Try.f7 Rows.roundCountsRow.domain false) (Rows.roundCountsSpec.post enc Try.prog Try.f7 false true false false) := by
  refine returnsInHanded_of_change_sized (C := Try.checked) own started (by kernel_rfl) Try.func7
    (ChangeSpec.witness6 (enc := enc) (C := Try.checked) false ⟨#[], #[.slice none 0 0], []⟩ 8 (by kernel_rfl) (by kernel_rfl) (by kernel_rfl) (by kernel_rfl)) ?_
  intro W base args ds gs before hval0 hW hcnd hsz0 _
  have hval : ∀ (j : Nat) t v, Try.f7.params[j]? = some t → args[j]? = some v → Value.okWide Try.prog W .any base t v := hval0
  have hW' := hW
  obtain ⟨p, q, hA0, hV, rfl, hfz, hnd⟩ := hW
  have hA : DataW.TrodAll enc Try.prog W 0 (fun _ => true) true Try.f7.params.toList args.toList ds p := hA0
  rw [Try.params7] at hA hval
  obtain ⟨v0, vs0, d0, ds0, p0, q0, hargs, rfl, rfl, h0, r0⟩ := trodAll_cons hA
  obtain ⟨rfl, rfl, rfl⟩ := trodAll_nil r0
  obtain rfl : args = #[v0] := by cases args; simp_all
  obtain ⟨rfl, rfl⟩ := trodVars_none hV
  have k0 := h0
  have lt0 : ∀ x ∈ p0, x.block < W.heap.size := by obtain ⟨m, hm⟩ := k0; exact DataW.trod_lt m _ _ _ hm
  obtain ⟨A0, c0, l0, rfl, hc0, hr0, hm0, hw0⟩ := Open.arg_slice Try.underlying33 (by kernel_rfl) (Open.op_slice Try.underlying34 (by kernel_rfl) op56) (hval 0 33 v0 rfl rfl) h0
  clear hA0 hval0 hsz0
  refine (Walk.lawRoundCounts A0 c0 l0 W hr0 hc0 hm0 hw0).mono fun e W' ⟨he, bel⟩ => ?_
  subst he
  exact ⟨_, rfl, _, _, _, [], _, [], hW', trodAll_mk1 (shut_bool Try.underlying4 _), (trodAll_cons_mk (Below.trod laidOut (by kernel_rfl) (of_decide_eq_true (by kernel_rfl)) k0 bel lt0) trodAll_mk0), rfl, bel.frame _, fun h => by cases h⟩
theorem over : Rows.roundCountsRow.holds Try.pinned (OpenSpec.ofChange Rows.roundCountsSpec) :=
  OpenClaim.holds_of_wide 7 Try.f7 rfl rfl rfl rfl rfl rfl rfl ⟨rfl, rfl, rfl, rfl, rfl⟩ rfl rfl rfl rfl rfl (by kernel_rfl) Try.func7 (by kernel_rfl)
    (of_decide_eq_true (by kernel_rfl)) (by unfold Func.isWrapper; first | (rw [if_pos (by decide +kernel)]; kernel_rfl) | (rw [if_neg (by decide +kernel)]; exact ⟨rfl, rfl⟩))
    (fun os started H enc _ => lifted os started H enc)
theorem proved : Rows.RoundCountsSaid := over
#print axioms proved
end Go.Proofs.Ytofodhfijihibaa.roundCounts
namespace Go.Proofs.Ytofodhfijihibaa
/-- The row, under a short name, for the claim. -/
theorem roundCounts_holds : Rows.RoundCountsSaid := roundCounts.proved
end Go.Proofs.Ytofodhfijihibaa
