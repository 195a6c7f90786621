/- The row of the law WitnessBounds, out of its run on the abstract machine (YtjbgdpfkmcibbaaGreatDoorSpBounds). No condition beyond the row's own. -/
import Derived.Test.YtjbgdpfkmcibbaaGreatDoorRows
import Derived.Test.YtjbgdpfkmcibbaaGreatDoorSimQ
import Derived.Test.YtjbgdpfkmcibbaaGreatDoorSpBounds
import Derived.Test.YtjbgdpfkmcibbaaGreatDoorSimV
import Derived.Test.YtjbgdpfkmcibbaaGreatDoorSpTab
import Derived.Test.YtjbgdpfkmcibbaaGreatDoorTie
import Derived.Test.YtjbgdpfkmcibbaaGreatDoorCards
import Derived.WalkKit
import Derived.ProofKit
import Derived.OpenShut
import Derived.ShutString
import Derived.ChangeOld
import Derived.Below
import Derived.SizedLaws
import Derived.Carry
import Derived.LaidMore
import Derived.LaidLaws
import Derived.MakeChecks
import Derived.SevenTiedAt
import Derived.Stop.Joined
import Derived.Handed
namespace Go.Proofs.YtjbgdpfkmcibbaaGreatDoor.witnessBounds
open Go.ChangeShapes Go.WideShapes Go.ChangeAt Go.RowKit Go.Proofs.YtjbgdpfkmcibbaaGreatDoor.Sim
set_option linter.unusedVariables false
theorem own : ownKnob Tryz.prog.godebug = none := by kernel_rfl
theorem laidOut : laidOutB Tryz.prog = true := by kernel_rfl
abbrev laidList : List (String × DataW Unit) := [("math/bits.deBruijn64tab", Rows.laid_math_bits_deBruijn64tab)]
theorem gT : Tryz.prog.globalNamed "math/bits.deBruijn64tab" = some 0 := by kernel_rfl
theorem tT : (Tryz.prog.globals[0]?).map (·.type) = some 420 := by kernel_rfl
theorem door_met (os : Os) (args : Array Value) : laidMetH Tryz.prog laidList ((World.doorLaid Tryz.prog 400 os).forCall (fun _ _ => 0) ⟨#[], args, []⟩).memory := by
  rw [MakeChecks.laidMetH_plain _ _ _ rfl]
  exact laidMet_of_run' 8 (by kernel_rfl) (by kernel_rfl)
set_option maxRecDepth 100000 in
theorem lifted (os : Os) (started : os.Started) (H : Type) (enc : TypeId × Value → H) :
    ReturnsInHanded {} Tryz.checked os 5 .any (fun w args => (Rows.witnessBoundsSpec.pre enc Tryz.prog Tryz.f5 [] false w args ∧ laidMetH Tryz.prog laidList w) ∧ sizedMet enc Tryz.prog Tryz.f5 (OpenSpec.ofChange Rows.witnessBoundsSpec) false w args) (Rows.witnessBoundsSpec.post enc Tryz.prog Tryz.f5 false true false false) := by
  refine returnsInHanded_of_change_and (C := Tryz.checked) (X := fun w _ => laidMetH Tryz.prog laidList w) (fun _ _ _ hh h => h.of_heap hh) own started (by kernel_rfl) Tryz.func5
    (ChangeSpec.witness_shaped (enc := enc) (C := Tryz.checked) (os := os) (X := fun w _ => laidMetH Tryz.prog laidList w) false (World.doorLaid Tryz.prog 400 os) #[.agg #[.int .i64 0, .int .i64 0, .int .i64 0, .int .i64 0, .int .i64 0, .int .i64 0, .int .i64 0, .int .i64 0, .int .i64 0, .int .i64 0, .int .i64 0, .int .i64 0, .int .i64 0, .int .i64 0, .int .i64 0, .int .i64 0], .int .i64 0, .int .i64 0] 8 rfl (World.shaped_of_RefB (by kernel_rfl) (by kernel_rfl)) (by kernel_rfl) (by kernel_rfl) (by kernel_rfl) (door_met os _)) ?_
  intro W base args ds gs before hval0 hW _ _ hL _
  obtain ⟨c, ty, fz, hh, hc⟩ := tab_cells (tab := tab) gT tT Tryz.underlying420 Tryz.underlying5 (by kernel_rfl) (by kernel_rfl) (by rw [← tab_laid]; exact hL)
  have hval : ∀ (j : Nat) t v, Tryz.f5.params[j]? = some t → args[j]? = some v → Value.okWide Tryz.prog W .any base t v := hval0
  have hW' := hW
  obtain ⟨p, q, hA0, hV, rfl, hfz, hnd⟩ := hW
  have hA : DataW.TrodAll enc Tryz.prog W 0 (fun _ => true) true Tryz.f5.params.toList args.toList ds p := hA0
  rw [Tryz.params5] at hA hval
  obtain ⟨v0, vs0, d0, ds0, p0, q0, hargs, rfl, rfl, h0, r0⟩ := trodAll_cons hA
  obtain ⟨v1, vs1, d1, ds1, p1, q1, rfl, rfl, rfl, h1, r1⟩ := trodAll_cons r0
  obtain ⟨v2, vs2, d2, ds2, p2, q2, rfl, rfl, rfl, h2, r2⟩ := trodAll_cons r1
  obtain ⟨rfl, rfl, rfl⟩ := trodAll_nil r2
  obtain rfl : args = #[v0, v1, v2] := by cases args; simp_all
  obtain ⟨rfl, rfl⟩ := trodVars_none hV
  have k0 := h0
  have lt0 : ∀ x ∈ p0, x.block < W.heap.size := by obtain ⟨m, hm⟩ := k0; exact DataW.trod_lt m _ _ _ hm
  obtain ⟨a0, w0, c0⟩ := ArgOk.struct Tryz.underlying27 (ok_struct Tryz.underlying27 (by kernel_rfl) (okf_cons rfl (ok_int Tryz.underlying3 (by kernel_rfl)) (by decide) (okf_cons rfl (ok_int Tryz.underlying3 (by kernel_rfl)) (by decide) (okf_cons rfl (ok_int Tryz.underlying3 (by kernel_rfl)) (by decide) (okf_cons rfl (ok_int Tryz.underlying3 (by kernel_rfl)) (by decide) (okf_cons rfl (ok_int Tryz.underlying3 (by kernel_rfl)) (by decide) (okf_cons rfl (ok_int Tryz.underlying3 (by kernel_rfl)) (by decide) (okf_cons rfl (ok_int Tryz.underlying3 (by kernel_rfl)) (by decide) (okf_cons rfl (ok_int Tryz.underlying3 (by kernel_rfl)) (by decide) (okf_cons rfl (ok_int Tryz.underlying3 (by kernel_rfl)) (by decide) (okf_cons rfl (ok_int Tryz.underlying3 (by kernel_rfl)) (by decide) (okf_cons rfl (ok_int Tryz.underlying3 (by kernel_rfl)) (by decide) (okf_cons rfl (ok_int Tryz.underlying2 (by kernel_rfl)) (by decide) (okf_cons rfl (ok_int Tryz.underlying2 (by kernel_rfl)) (by decide) (okf_cons rfl (ok_int Tryz.underlying2 (by kernel_rfl)) (by decide) (okf_cons rfl (ok_int Tryz.underlying2 (by kernel_rfl)) (by decide) (okf_one rfl (ok_int Tryz.underlying2 (by kernel_rfl))))))))))))))))))) (hval 0 27 v0 rfl rfl) h0
  have k1 := h1
  have lt1 : ∀ x ∈ p1, x.block < W.heap.size := by obtain ⟨m, hm⟩ := k1; exact DataW.trod_lt m _ _ _ hm
  obtain ⟨a1, w1, c1⟩ := ArgOk.one (ok_int Tryz.underlying3 (by kernel_rfl)) (one_int Tryz.underlying3 (hval 1 3 v1 rfl rfl)) h1
  have k2 := h2
  have lt2 : ∀ x ∈ p2, x.block < W.heap.size := by obtain ⟨m, hm⟩ := k2; exact DataW.trod_lt m _ _ _ hm
  obtain ⟨a2, w2, c2⟩ := ArgOk.one (ok_int Tryz.underlying3 (by kernel_rfl)) (one_int Tryz.underlying3 (hval 2 3 v2 rfl rfl)) h2
  obtain ⟨ι0, wr0, pl0, vr0⟩ := c0 (plain_table .u8 tab) (WR.table hh hc (fun _ => rfl)) (VRs.nil _ _ _)
  obtain ⟨ι1, wr1, pl1, vr1⟩ := c1 pl0 wr0 vr0
  obtain ⟨ι2, wr2, pl2, vr2⟩ := c2 pl1 wr1 vr1
  clear hA0 hval0
  obtain ⟨k, s', hrun⟩ := lawWitnessBounds a0 w0 a1 w1 a2 w2
  refine (law_callsO (ys := #[v0, v1, v2]) (orc_ok W hh hc) hrun wr2 vr2).mono fun e W' ⟨he, bel⟩ => ?_
  subst he
  exact ⟨_, rfl, _, _, _, [], _, [], hW', trodAll_mk1 (shut_bool Tryz.underlying4 _), (trodAll_cons_mk (Below.trod laidOut (by kernel_rfl) (of_decide_eq_true (by kernel_rfl)) k0 bel lt0) (trodAll_cons_mk (Below.trod laidOut (by kernel_rfl) (of_decide_eq_true (by kernel_rfl)) k1 bel lt1) (trodAll_cons_mk (Below.trod laidOut (by kernel_rfl) (of_decide_eq_true (by kernel_rfl)) k2 bel lt2) trodAll_mk0))), rfl, bel.frame _, fun h => by cases h⟩
theorem andT {a b : Bool} (h : a = true) (k : b = true) : (a && b) = true := by rw [h, k]; rfl
set_option maxHeartbeats 20000000 in
theorem joined : joinedFacts Tryz.pinned.checked.prog 5 Tryz.f5 Rows.witnessBoundsSpec Rows.witnessBoundsRow = true := by
  unfold joinedFacts
  repeat refine andT ?_ ?_
  all_goals (as_aux_lemma => kernel_rfl)
theorem over : Rows.witnessBoundsRow.holds Tryz.pinned (OpenSpec.ofChange Rows.witnessBoundsSpec) :=
  OpenClaim.holds_of_wide 5 Tryz.f5 rfl rfl rfl rfl rfl rfl rfl ⟨rfl, rfl, rfl, rfl, rfl⟩ rfl rfl rfl rfl rfl (by as_aux_lemma => kernel_rfl) Tryz.func5 joined
    (of_decide_eq_true (by as_aux_lemma => kernel_rfl)) (by unfold Func.isWrapper; first | (rw [if_pos (by decide +kernel)]; kernel_rfl) | (rw [if_neg (by decide +kernel)]; exact ⟨rfl, rfl⟩))
    (fun os started H enc _ => lifted os started H enc)
theorem proved : Rows.WitnessBoundsSaid := over
theorem card : Rows.WitnessBoundsCardSaid :=
  Claim7.holds_tied_plain_at .later [] [.data] true (true, "a1ae22a4e7d49890f9487f9cea2e61f01e10404aa9793fc3fbc61536f0cda7a3") false
    proved (fun _ h => by cases h) (by as_aux_lemma => kernel_rfl) (fun _ h => by cases h) witnessBounds_row_tie rfl ⟨rfl, rfl⟩ (by as_aux_lemma => kernel_rfl) rfl
    (fun f fn hf hfn => by
      obtain rfl : f = 5 := Option.some.inj ((show Tryz.prog.funcNamed "unison/unisonlaw29.WitnessBounds" = some 5 by as_aux_lemma => kernel_rfl).symm.trans hf) |>.symm
      obtain rfl : fn = Tryz.f5 := (Option.some.inj (Tryz.func5.symm.trans hfn)).symm
      exact ⟨by as_aux_lemma => kernel_rfl, fun j t ht => by
        rw [Tryz.params5] at ht
        have hm : t ∈ [27, 3, 3] := by
          simpa using Array.mem_of_getElem? ht
        have hall : ([27, 3, 3].all fun u => !Tryz.prog.wantsStandIn u) = true := by as_aux_lemma => kernel_rfl
        exact (show Tryz.prog.wantsStandIn t = false by simpa using List.all_eq_true.1 hall t hm)⟩)
    (by as_aux_lemma => kernel_rfl)
#print axioms card
end Go.Proofs.YtjbgdpfkmcibbaaGreatDoor.witnessBounds
namespace Go.Proofs.YtjbgdpfkmcibbaaGreatDoor
/-- The row, under a short name, for the claim. -/
theorem witnessBounds_holds : Rows.WitnessBoundsCardSaid := witnessBounds.card
end Go.Proofs.YtjbgdpfkmcibbaaGreatDoor
