/- The row of the law ProcNil, out of its run on the abstract machine (YtlacppoamekaiaaGreatDoorSpNil). No condition beyond the row's own. -/
import Derived.Test.YtlacppoamekaiaaGreatDoorRows
import Derived.Test.YtlacppoamekaiaaGreatDoorSimQ
import Derived.Test.YtlacppoamekaiaaGreatDoorSpNil
import Derived.Test.YtlacppoamekaiaaGreatDoorSimV
import Derived.Test.YtlacppoamekaiaaGreatDoorSpTab
import Derived.Test.YtlacppoamekaiaaGreatDoorTie
import Derived.Test.YtlacppoamekaiaaGreatDoorCards
import Derived.WalkKit
import Derived.ProofKit
import Derived.OpenShut
import Derived.ShutString
import Derived.ChangeOld
import Derived.Below
import Derived.SizedLaws
import Derived.Carry
import Derived.LaidMore
import Derived.LaidLaws
import Derived.MakeChecks
import Derived.SevenTiedAt
import Derived.Stop.Joined
import Derived.Handed
namespace Go.Proofs.YtlacppoamekaiaaGreatDoor.procNil
open Go.ChangeShapes Go.WideShapes Go.ChangeAt Go.RowKit Go.Proofs.YtlacppoamekaiaaGreatDoor.Sim
set_option linter.unusedVariables false
theorem own : ownKnob Tryz.prog.godebug = none := by kernel_rfl
theorem laidOut : laidOutB Tryz.prog = true := by kernel_rfl
abbrev laidList : List (String × DataW Unit) := [("math/bits.deBruijn64tab", Rows.laid_math_bits_deBruijn64tab)]
theorem gT : Tryz.prog.globalNamed "math/bits.deBruijn64tab" = some 0 := by kernel_rfl
theorem tT : (Tryz.prog.globals[0]?).map (·.type) = some 405 := by kernel_rfl
theorem door_met (os : Os) (args : Array Value) : laidMetH Tryz.prog laidList ((World.doorLaid Tryz.prog 400 os).forCall (fun _ _ => 0) ⟨#[], args, []⟩).memory := by
  rw [MakeChecks.laidMetH_plain _ _ _ rfl]
  exact laidMet_of_run' 8 (by kernel_rfl) (by kernel_rfl)
set_option maxRecDepth 100000 in
theorem lifted (os : Os) (started : os.Started) (H : Type) (enc : TypeId × Value → H) :
    ReturnsInHanded {} Tryz.checked os 8 .any (fun w args => (Rows.procNilSpec.pre enc Tryz.prog Tryz.f8 [] false w args ∧ laidMetH Tryz.prog laidList w) ∧ sizedMet enc Tryz.prog Tryz.f8 (OpenSpec.ofChange Rows.procNilSpec) false w args) (Rows.procNilSpec.post enc Tryz.prog Tryz.f8 false true false false) := by
  refine returnsInHanded_of_change_and (C := Tryz.checked) (X := fun w _ => laidMetH Tryz.prog laidList w) (fun _ _ _ hh h => h.of_heap hh) own started (by kernel_rfl) Tryz.func8
    (ChangeSpec.witness_shaped (enc := enc) (C := Tryz.checked) (os := os) (X := fun w _ => laidMetH Tryz.prog laidList w) false (World.doorLaid Tryz.prog 400 os) #[.slice none 0 0, .int .i64 0] 8 rfl (World.shaped_of_RefB (by kernel_rfl) (by kernel_rfl)) (by kernel_rfl) (by kernel_rfl) (by kernel_rfl) (door_met os _)) ?_
  intro W base args ds gs before hval0 hW _ _ hL _
  obtain ⟨c, ty, fz, hh, hc⟩ := tab_cells (tab := tab) gT tT Tryz.underlying405 Tryz.underlying5 (by kernel_rfl) (by kernel_rfl) (by rw [← tab_laid]; exact hL)
  have hval : ∀ (j : Nat) t v, Tryz.f8.params[j]? = some t → args[j]? = some v → Value.okWide Tryz.prog W .any base t v := hval0
  have hW' := hW
  obtain ⟨p, q, hA0, hV, rfl, hfz, hnd⟩ := hW
  have hA : DataW.TrodAll enc Tryz.prog W 0 (fun _ => true) true Tryz.f8.params.toList args.toList ds p := hA0
  rw [Tryz.params8] at hA hval
  obtain ⟨v0, vs0, d0, ds0, p0, q0, hargs, rfl, rfl, h0, r0⟩ := trodAll_cons hA
  obtain ⟨v1, vs1, d1, ds1, p1, q1, rfl, rfl, rfl, h1, r1⟩ := trodAll_cons r0
  obtain ⟨rfl, rfl, rfl⟩ := trodAll_nil r1
  obtain rfl : args = #[v0, v1] := by cases args; simp_all
  obtain ⟨rfl, rfl⟩ := trodVars_none hV
  have k0 := h0
  have lt0 : ∀ x ∈ p0, x.block < W.heap.size := by obtain ⟨m, hm⟩ := k0; exact DataW.trod_lt m _ _ _ hm
  obtain ⟨a0, w0, c0⟩ := ArgOk.one (ok_slice Tryz.underlying38 (by kernel_rfl) (ok_int Tryz.underlying5 (by kernel_rfl)) (by decide)) (one_slice Tryz.underlying38 (hval 0 38 v0 rfl rfl)) h0
  have k1 := h1
  have lt1 : ∀ x ∈ p1, x.block < W.heap.size := by obtain ⟨m, hm⟩ := k1; exact DataW.trod_lt m _ _ _ hm
  obtain ⟨a1, w1, c1⟩ := ArgOk.one (ok_int Tryz.underlying3 (by kernel_rfl)) (one_int Tryz.underlying3 (hval 1 3 v1 rfl rfl)) h1
  obtain ⟨ι0, wr0, pl0, vr0⟩ := c0 (plain_table .u8 tab) (WR.table hh hc (fun _ => rfl)) (VRs.nil _ _ _)
  obtain ⟨ι1, wr1, pl1, vr1⟩ := c1 pl0 wr0 vr0
  clear hA0 hval0
  obtain ⟨k, s', hrun⟩ := lawProcNil a0 w0 a1 w1
  refine (law_callsO (ys := #[v0, v1]) (orc_ok W hh hc) hrun wr1 vr1).mono fun e W' ⟨he, bel⟩ => ?_
  subst he
  exact ⟨_, rfl, _, _, _, [], _, [], hW', trodAll_mk1 (shut_bool Tryz.underlying4 _), (trodAll_cons_mk (Below.trod laidOut (by kernel_rfl) (of_decide_eq_true (by kernel_rfl)) k0 bel lt0) (trodAll_cons_mk (Below.trod laidOut (by kernel_rfl) (of_decide_eq_true (by kernel_rfl)) k1 bel lt1) trodAll_mk0)), rfl, bel.frame _, fun h => by cases h⟩
theorem andT {a b : Bool} (h : a = true) (k : b = true) : (a && b) = true := by rw [h, k]; rfl
set_option maxHeartbeats 20000000 in
theorem joined : joinedFacts Tryz.pinned.checked.prog 8 Tryz.f8 Rows.procNilSpec Rows.procNilRow = true := by
  unfold joinedFacts
  repeat refine andT ?_ ?_
  all_goals (as_aux_lemma => kernel_rfl)
theorem over : Rows.procNilRow.holds Tryz.pinned (OpenSpec.ofChange Rows.procNilSpec) :=
  OpenClaim.holds_of_wide 8 Tryz.f8 rfl rfl rfl rfl rfl rfl rfl ⟨rfl, rfl, rfl, rfl, rfl⟩ rfl rfl rfl rfl rfl (by as_aux_lemma => kernel_rfl) Tryz.func8 joined
    (of_decide_eq_true (by as_aux_lemma => kernel_rfl)) (by unfold Func.isWrapper; first | (rw [if_pos (by decide +kernel)]; kernel_rfl) | (rw [if_neg (by decide +kernel)]; exact ⟨rfl, rfl⟩))
    (fun os started H enc _ => lifted os started H enc)
theorem proved : Rows.ProcNilSaid := over
theorem card : Rows.ProcNilCardSaid :=
  Claim7.holds_tied_plain_at .later [] [.data] true (true, "6744833c551d74add6dbb19dd1a5dd0a6671190a21a570a9c6f2d29c4f5c02d3") false
    proved (fun _ h => by cases h) (by as_aux_lemma => kernel_rfl) (fun _ h => by cases h) procNil_row_tie rfl ⟨rfl, rfl⟩ (by as_aux_lemma => kernel_rfl) rfl
    (fun f fn hf hfn => by
      obtain rfl : f = 8 := Option.some.inj ((show Tryz.prog.funcNamed "unison/unisonlaw24.ProcNil" = some 8 by as_aux_lemma => kernel_rfl).symm.trans hf) |>.symm
      obtain rfl : fn = Tryz.f8 := (Option.some.inj (Tryz.func8.symm.trans hfn)).symm
      exact ⟨by as_aux_lemma => kernel_rfl, fun j t ht => by
        rw [Tryz.params8] at ht
        have hm : t ∈ [38, 3] := by
          simpa using Array.mem_of_getElem? ht
        have hall : ([38, 3].all fun u => !Tryz.prog.wantsStandIn u) = true := by as_aux_lemma => kernel_rfl
        exact (show Tryz.prog.wantsStandIn t = false by simpa using List.all_eq_true.1 hall t hm)⟩)
    (by as_aux_lemma => kernel_rfl)
#print axioms card
end Go.Proofs.YtlacppoamekaiaaGreatDoor.procNil
namespace Go.Proofs.YtlacppoamekaiaaGreatDoor
/-- The row, under a short name, for the claim. -/
theorem procNil_holds : Rows.ProcNilCardSaid := procNil.card
end Go.Proofs.YtlacppoamekaiaaGreatDoor
