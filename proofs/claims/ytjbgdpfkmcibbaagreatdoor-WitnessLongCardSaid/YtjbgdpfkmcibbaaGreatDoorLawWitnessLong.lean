/- The row of the law WitnessLong, out of its run on the abstract machine (YtjbgdpfkmcibbaaGreatDoorSpLong). No condition beyond the row's own. -/
import Derived.Test.YtjbgdpfkmcibbaaGreatDoorRows
import Derived.Test.YtjbgdpfkmcibbaaGreatDoorSimQ
import Derived.Test.YtjbgdpfkmcibbaaGreatDoorSpLong
import Derived.Test.YtjbgdpfkmcibbaaGreatDoorSimV
import Derived.Test.YtjbgdpfkmcibbaaGreatDoorSpTab
import Derived.Test.YtjbgdpfkmcibbaaGreatDoorTie
import Derived.Test.YtjbgdpfkmcibbaaGreatDoorCards
import Derived.WalkKit
import Derived.ProofKit
import Derived.OpenShut
import Derived.ShutString
import Derived.ChangeOld
import Derived.Below
import Derived.SizedLaws
import Derived.Carry
import Derived.LaidMore
import Derived.LaidLaws
import Derived.MakeChecks
import Derived.SevenTiedAt
import Derived.Stop.Joined
import Derived.Handed
namespace Go.Proofs.YtjbgdpfkmcibbaaGreatDoor.witnessLong
open Go.ChangeShapes Go.WideShapes Go.ChangeAt Go.RowKit Go.Proofs.YtjbgdpfkmcibbaaGreatDoor.Sim
set_option linter.unusedVariables false
theorem own : ownKnob Tryz.prog.godebug = none := by kernel_rfl
theorem laidOut : laidOutB Tryz.prog = true := by kernel_rfl
abbrev laidList : List (String × DataW Unit) := [("math/bits.deBruijn64tab", Rows.laid_math_bits_deBruijn64tab)]
theorem gT : Tryz.prog.globalNamed "math/bits.deBruijn64tab" = some 0 := by kernel_rfl
theorem tT : (Tryz.prog.globals[0]?).map (·.type) = some 420 := by kernel_rfl
theorem door_met (os : Os) (args : Array Value) : laidMetH Tryz.prog laidList ((World.doorLaid Tryz.prog 400 os).forCall (fun _ _ => 0) ⟨#[], args, []⟩).memory := by
  rw [MakeChecks.laidMetH_plain _ _ _ rfl]
  exact laidMet_of_run' 8 (by kernel_rfl) (by kernel_rfl)
set_option maxRecDepth 100000 in
theorem lifted (os : Os) (started : os.Started) (H : Type) (enc : TypeId × Value → H) :
    ReturnsInHanded {} Tryz.checked os 4 .any (fun w args => (Rows.witnessLongSpec.pre enc Tryz.prog Tryz.f4 [] false w args ∧ laidMetH Tryz.prog laidList w) ∧ sizedMet enc Tryz.prog Tryz.f4 (OpenSpec.ofChange Rows.witnessLongSpec) false w args) (Rows.witnessLongSpec.post enc Tryz.prog Tryz.f4 false true false false) := by
  refine returnsInHanded_of_change_and (C := Tryz.checked) (X := fun w _ => laidMetH Tryz.prog laidList w) (fun _ _ _ hh h => h.of_heap hh) own started (by kernel_rfl) Tryz.func4
    (ChangeSpec.witness_shaped (enc := enc) (C := Tryz.checked) (os := os) (X := fun w _ => laidMetH Tryz.prog laidList w) false (World.doorLaid Tryz.prog 400 os) #[.int .u8 0, .int .i64 0] 8 rfl (World.shaped_of_RefB (by kernel_rfl) (by kernel_rfl)) (by kernel_rfl) (by kernel_rfl) (by kernel_rfl) (door_met os _)) ?_
  intro W base args ds gs before hval0 hW _ _ hL _
  obtain ⟨c, ty, fz, hh, hc⟩ := tab_cells (tab := tab) gT tT Tryz.underlying420 Tryz.underlying5 (by kernel_rfl) (by kernel_rfl) (by rw [← tab_laid]; exact hL)
  have hval : ∀ (j : Nat) t v, Tryz.f4.params[j]? = some t → args[j]? = some v → Value.okWide Tryz.prog W .any base t v := hval0
  have hW' := hW
  obtain ⟨p, q, hA0, hV, rfl, hfz, hnd⟩ := hW
  have hA : DataW.TrodAll enc Tryz.prog W 0 (fun _ => true) true Tryz.f4.params.toList args.toList ds p := hA0
  rw [Tryz.params4] at hA hval
  obtain ⟨v0, vs0, d0, ds0, p0, q0, hargs, rfl, rfl, h0, r0⟩ := trodAll_cons hA
  obtain ⟨v1, vs1, d1, ds1, p1, q1, rfl, rfl, rfl, h1, r1⟩ := trodAll_cons r0
  obtain ⟨rfl, rfl, rfl⟩ := trodAll_nil r1
  obtain rfl : args = #[v0, v1] := by cases args; simp_all
  obtain ⟨rfl, rfl⟩ := trodVars_none hV
  have k0 := h0
  have lt0 : ∀ x ∈ p0, x.block < W.heap.size := by obtain ⟨m, hm⟩ := k0; exact DataW.trod_lt m _ _ _ hm
  obtain ⟨a0, w0, c0⟩ := ArgOk.one (ok_int Tryz.underlying5 (by kernel_rfl)) (one_int Tryz.underlying5 (hval 0 5 v0 rfl rfl)) h0
  have k1 := h1
  have lt1 : ∀ x ∈ p1, x.block < W.heap.size := by obtain ⟨m, hm⟩ := k1; exact DataW.trod_lt m _ _ _ hm
  obtain ⟨a1, w1, c1⟩ := ArgOk.one (ok_int Tryz.underlying3 (by kernel_rfl)) (one_int Tryz.underlying3 (hval 1 3 v1 rfl rfl)) h1
  obtain ⟨ι0, wr0, pl0, vr0⟩ := c0 (plain_table .u8 tab) (WR.table hh hc (fun _ => rfl)) (VRs.nil _ _ _)
  obtain ⟨ι1, wr1, pl1, vr1⟩ := c1 pl0 wr0 vr0
  clear hA0 hval0
  obtain ⟨k, s', hrun⟩ := lawWitnessLong a0 w0 a1 w1
  refine (law_callsO (ys := #[v0, v1]) (orc_ok W hh hc) hrun wr1 vr1).mono fun e W' ⟨he, bel⟩ => ?_
  subst he
  exact ⟨_, rfl, _, _, _, [], _, [], hW', trodAll_mk1 (shut_bool Tryz.underlying4 _), (trodAll_cons_mk (Below.trod laidOut (by kernel_rfl) (of_decide_eq_true (by kernel_rfl)) k0 bel lt0) (trodAll_cons_mk (Below.trod laidOut (by kernel_rfl) (of_decide_eq_true (by kernel_rfl)) k1 bel lt1) trodAll_mk0)), rfl, bel.frame _, fun h => by cases h⟩
theorem andT {a b : Bool} (h : a = true) (k : b = true) : (a && b) = true := by rw [h, k]; rfl
set_option maxHeartbeats 20000000 in
theorem joined : joinedFacts Tryz.pinned.checked.prog 4 Tryz.f4 Rows.witnessLongSpec Rows.witnessLongRow = true := by
  unfold joinedFacts
  repeat refine andT ?_ ?_
  all_goals (as_aux_lemma => kernel_rfl)
theorem over : Rows.witnessLongRow.holds Tryz.pinned (OpenSpec.ofChange Rows.witnessLongSpec) :=
  OpenClaim.holds_of_wide 4 Tryz.f4 rfl rfl rfl rfl rfl rfl rfl ⟨rfl, rfl, rfl, rfl, rfl⟩ rfl rfl rfl rfl rfl (by as_aux_lemma => kernel_rfl) Tryz.func4 joined
    (of_decide_eq_true (by as_aux_lemma => kernel_rfl)) (by unfold Func.isWrapper; first | (rw [if_pos (by decide +kernel)]; kernel_rfl) | (rw [if_neg (by decide +kernel)]; exact ⟨rfl, rfl⟩))
    (fun os started H enc _ => lifted os started H enc)
theorem proved : Rows.WitnessLongSaid := over
theorem card : Rows.WitnessLongCardSaid :=
  Claim7.holds_tied_plain_at .later [] [.data] true (true, "a1ae22a4e7d49890f9487f9cea2e61f01e10404aa9793fc3fbc61536f0cda7a3") false
    proved (fun _ h => by cases h) (by as_aux_lemma => kernel_rfl) (fun _ h => by cases h) witnessLong_row_tie rfl ⟨rfl, rfl⟩ (by as_aux_lemma => kernel_rfl) rfl
    (fun f fn hf hfn => by
      obtain rfl : f = 4 := Option.some.inj ((show Tryz.prog.funcNamed "unison/unisonlaw29.WitnessLong" = some 4 by as_aux_lemma => kernel_rfl).symm.trans hf) |>.symm
      obtain rfl : fn = Tryz.f4 := (Option.some.inj (Tryz.func4.symm.trans hfn)).symm
      exact ⟨by as_aux_lemma => kernel_rfl, fun j t ht => by
        rw [Tryz.params4] at ht
        have hm : t ∈ [5, 3] := by
          simpa using Array.mem_of_getElem? ht
        have hall : ([5, 3].all fun u => !Tryz.prog.wantsStandIn u) = true := by as_aux_lemma => kernel_rfl
        exact (show Tryz.prog.wantsStandIn t = false by simpa using List.all_eq_true.1 hall t hm)⟩)
    (by as_aux_lemma => kernel_rfl)
#print axioms card
end Go.Proofs.YtjbgdpfkmcibbaaGreatDoor.witnessLong
namespace Go.Proofs.YtjbgdpfkmcibbaaGreatDoor
/-- The row, under a short name, for the claim. -/
theorem witnessLong_holds : Rows.WitnessLongCardSaid := witnessLong.card
end Go.Proofs.YtjbgdpfkmcibbaaGreatDoor
