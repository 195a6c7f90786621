/- The row of the law GatherPlays, out of its run on the abstract machine (YtmkdpenpfkmfpaaDoorSpPlays). No condition beyond the row's own. -/
import Derived.Test.YtmkdpenpfkmfpaaDoorRows
import Derived.Test.YtmkdpenpfkmfpaaDoorSimQ
import Derived.Test.YtmkdpenpfkmfpaaDoorSpPlays
import Derived.Test.YtmkdpenpfkmfpaaDoorSimV
import Derived.Test.YtmkdpenpfkmfpaaDoorSpTab
import Derived.Test.YtmkdpenpfkmfpaaDoorTie
import Derived.Test.YtmkdpenpfkmfpaaDoorCards
import Derived.WalkKit
import Derived.ProofKit
import Derived.OpenShut
import Derived.ShutString
import Derived.ChangeOld
import Derived.Below
import Derived.SizedLaws
import Derived.Carry
import Derived.LaidMore
import Derived.LaidLaws
import Derived.MakeChecks
import Derived.SevenTiedAt
import Derived.Stop.Joined
import Derived.Handed
namespace Go.Proofs.YtmkdpenpfkmfpaaDoor.gatherPlays
open Go.ChangeShapes Go.WideShapes Go.ChangeAt Go.RowKit Go.Proofs.YtmkdpenpfkmfpaaDoor.Sim
set_option linter.unusedVariables false
theorem own : ownKnob Tryd.prog.godebug = none := by kernel_rfl
theorem laidOut : laidOutB Tryd.prog = true := by kernel_rfl
abbrev laidList : List (String × DataW Unit) := [("math/bits.deBruijn64tab", Rows.laid_math_bits_deBruijn64tab)]
theorem gT : Tryd.prog.globalNamed "math/bits.deBruijn64tab" = some 0 := by kernel_rfl
theorem tT : (Tryd.prog.globals[0]?).map (·.type) = some 97 := by kernel_rfl
theorem door_met (os : Os) (args : Array Value) : laidMetH Tryd.prog laidList ((World.doorLaid Tryd.prog 400 os).forCall (fun _ _ => 0) ⟨#[], args, []⟩).memory := by
  rw [MakeChecks.laidMetH_plain _ _ _ rfl]
  exact laidMet_of_run' 8 (by kernel_rfl) (by kernel_rfl)
set_option maxRecDepth 100000 in
theorem lifted (os : Os) (started : os.Started) (H : Type) (enc : TypeId × Value → H) :
    ReturnsInHanded {} Tryd.checked os 3 .any (fun w args => (Rows.gatherPlaysSpec.pre enc Tryd.prog Tryd.f3 [] false w args ∧ laidMetH Tryd.prog laidList w) ∧ sizedMet enc Tryd.prog Tryd.f3 (OpenSpec.ofChange Rows.gatherPlaysSpec) false w args) (Rows.gatherPlaysSpec.post enc Tryd.prog Tryd.f3 false true false false) := by
  refine returnsInHanded_of_change_and (C := Tryd.checked) (X := fun w _ => laidMetH Tryd.prog laidList w) (fun _ _ _ hh h => h.of_heap hh) own started (by kernel_rfl) Tryd.func3
    (ChangeSpec.witness_shaped (enc := enc) (C := Tryd.checked) (os := os) (X := fun w _ => laidMetH Tryd.prog laidList w) false (World.doorLaid Tryd.prog 400 os) #[.int .i64 0, .int .i64 0, .int .i64 0, .slice none 0 0, .agg #[.int .u8 0, .int .u64 0], .int .u8 0] 8 rfl (World.shaped_of_RefB (by kernel_rfl) (by kernel_rfl)) (by kernel_rfl) (by kernel_rfl) (by kernel_rfl) (door_met os _)) ?_
  intro W base args ds gs before hval0 hW _ _ hL _
  obtain ⟨c, ty, fz, hh, hc⟩ := tab_cells (tab := tab) gT tT Tryd.underlying97 Tryd.underlying5 (by kernel_rfl) (by kernel_rfl) (by rw [← tab_laid]; exact hL)
  have hval : ∀ (j : Nat) t v, Tryd.f3.params[j]? = some t → args[j]? = some v → Value.okWide Tryd.prog W .any base t v := hval0
  have hW' := hW
  obtain ⟨p, q, hA0, hV, rfl, hfz, hnd⟩ := hW
  have hA : DataW.TrodAll enc Tryd.prog W 0 (fun _ => true) true Tryd.f3.params.toList args.toList ds p := hA0
  rw [Tryd.params3] at hA hval
  obtain ⟨v0, vs0, d0, ds0, p0, q0, hargs, rfl, rfl, h0, r0⟩ := trodAll_cons hA
  obtain ⟨v1, vs1, d1, ds1, p1, q1, rfl, rfl, rfl, h1, r1⟩ := trodAll_cons r0
  obtain ⟨v2, vs2, d2, ds2, p2, q2, rfl, rfl, rfl, h2, r2⟩ := trodAll_cons r1
  obtain ⟨v3, vs3, d3, ds3, p3, q3, rfl, rfl, rfl, h3, r3⟩ := trodAll_cons r2
  obtain ⟨v4, vs4, d4, ds4, p4, q4, rfl, rfl, rfl, h4, r4⟩ := trodAll_cons r3
  obtain ⟨v5, vs5, d5, ds5, p5, q5, rfl, rfl, rfl, h5, r5⟩ := trodAll_cons r4
  obtain ⟨rfl, rfl, rfl⟩ := trodAll_nil r5
  obtain rfl : args = #[v0, v1, v2, v3, v4, v5] := by cases args; simp_all
  obtain ⟨rfl, rfl⟩ := trodVars_none hV
  have k0 := h0
  have lt0 : ∀ x ∈ p0, x.block < W.heap.size := by obtain ⟨m, hm⟩ := k0; exact DataW.trod_lt m _ _ _ hm
  obtain ⟨a0, w0, c0⟩ := ArgOk.one (ok_int Tryd.underlying3 (by kernel_rfl)) (one_int Tryd.underlying3 (hval 0 3 v0 rfl rfl)) h0
  have k1 := h1
  have lt1 : ∀ x ∈ p1, x.block < W.heap.size := by obtain ⟨m, hm⟩ := k1; exact DataW.trod_lt m _ _ _ hm
  obtain ⟨a1, w1, c1⟩ := ArgOk.one (ok_int Tryd.underlying3 (by kernel_rfl)) (one_int Tryd.underlying3 (hval 1 3 v1 rfl rfl)) h1
  have k2 := h2
  have lt2 : ∀ x ∈ p2, x.block < W.heap.size := by obtain ⟨m, hm⟩ := k2; exact DataW.trod_lt m _ _ _ hm
  obtain ⟨a2, w2, c2⟩ := ArgOk.one (ok_int Tryd.underlying3 (by kernel_rfl)) (one_int Tryd.underlying3 (hval 2 3 v2 rfl rfl)) h2
  have k3 := h3
  have lt3 : ∀ x ∈ p3, x.block < W.heap.size := by obtain ⟨m, hm⟩ := k3; exact DataW.trod_lt m _ _ _ hm
  obtain ⟨a3, w3, c3⟩ := ArgOk.one (ok_slice Tryd.underlying22 (by kernel_rfl) (ok_struct Tryd.underlying43 (by kernel_rfl) (okf_cons rfl (ok_int Tryd.underlying3 (by kernel_rfl)) (by decide) (okf_one rfl (ok_struct Tryd.underlying41 (by kernel_rfl) (okf_cons rfl (ok_struct Tryd.underlying35 (by kernel_rfl) (okf_cons rfl (ok_int Tryd.underlying5 (by kernel_rfl)) (by decide) (okf_cons rfl (ok_int Tryd.underlying5 (by kernel_rfl)) (by decide) (okf_one rfl (ok_int Tryd.underlying5 (by kernel_rfl)))))) (by decide) (okf_cons rfl (ok_struct Tryd.underlying25 (by kernel_rfl) (okf_cons rfl (ok_int Tryd.underlying5 (by kernel_rfl)) (by decide) (okf_one rfl (ok_int Tryd.underlying23 (by kernel_rfl))))) (by decide) (okf_cons rfl (ok_int Tryd.underlying23 (by kernel_rfl)) (by decide) (okf_cons rfl (ok_int Tryd.underlying36 (by kernel_rfl)) (by decide) (okf_cons rfl (ok_int Tryd.underlying36 (by kernel_rfl)) (by decide) (okf_cons rfl (ok_int Tryd.underlying36 (by kernel_rfl)) (by decide) (okf_cons rfl (ok_int Tryd.underlying23 (by kernel_rfl)) (by decide) (okf_cons rfl (ok_int Tryd.underlying23 (by kernel_rfl)) (by decide) (okf_cons rfl (ok_slice Tryd.underlying37 (by kernel_rfl) (ok_struct Tryd.underlying114 (by kernel_rfl) (okf_cons rfl (ok_int Tryd.underlying5 (by kernel_rfl)) (by decide) (okf_cons rfl (ok_int Tryd.underlying23 (by kernel_rfl)) (by decide) (okf_one rfl (ok_int Tryd.underlying23 (by kernel_rfl)))))) (by decide)) (by decide) (okf_cons rfl (ok_slice Tryd.underlying37 (by kernel_rfl) (ok_struct Tryd.underlying114 (by kernel_rfl) (okf_cons rfl (ok_int Tryd.underlying5 (by kernel_rfl)) (by decide) (okf_cons rfl (ok_int Tryd.underlying23 (by kernel_rfl)) (by decide) (okf_one rfl (ok_int Tryd.underlying23 (by kernel_rfl)))))) (by decide)) (by decide) (okf_cons rfl (ok_slice Tryd.underlying38 (by kernel_rfl) (ok_int Tryd.underlying23 (by kernel_rfl)) (by decide)) (by decide) (okf_cons rfl (ok_slice Tryd.underlying38 (by kernel_rfl) (ok_int Tryd.underlying23 (by kernel_rfl)) (by decide)) (by decide) (okf_one rfl (ok_slice Tryd.underlying39 (by kernel_rfl) (ok_int Tryd.underlying5 (by kernel_rfl)) (by decide))))))))))))))))))) (by decide)) (one_slice Tryd.underlying22 (hval 3 22 v3 rfl rfl)) h3
  have k4 := h4
  have lt4 : ∀ x ∈ p4, x.block < W.heap.size := by obtain ⟨m, hm⟩ := k4; exact DataW.trod_lt m _ _ _ hm
  obtain ⟨a4, w4, c4⟩ := ArgOk.struct Tryd.underlying25 (ok_struct Tryd.underlying25 (by kernel_rfl) (okf_cons rfl (ok_int Tryd.underlying5 (by kernel_rfl)) (by decide) (okf_one rfl (ok_int Tryd.underlying23 (by kernel_rfl))))) (hval 4 25 v4 rfl rfl) h4
  have k5 := h5
  have lt5 : ∀ x ∈ p5, x.block < W.heap.size := by obtain ⟨m, hm⟩ := k5; exact DataW.trod_lt m _ _ _ hm
  obtain ⟨a5, w5, c5⟩ := ArgOk.one (ok_int Tryd.underlying5 (by kernel_rfl)) (one_int Tryd.underlying5 (hval 5 5 v5 rfl rfl)) h5
  obtain ⟨ι0, wr0, pl0, vr0⟩ := c0 (plain_table .u8 tab) (WR.table hh hc (fun _ => rfl)) (VRs.nil _ _ _)
  obtain ⟨ι1, wr1, pl1, vr1⟩ := c1 pl0 wr0 vr0
  obtain ⟨ι2, wr2, pl2, vr2⟩ := c2 pl1 wr1 vr1
  obtain ⟨ι3, wr3, pl3, vr3⟩ := c3 pl2 wr2 vr2
  obtain ⟨ι4, wr4, pl4, vr4⟩ := c4 pl3 wr3 vr3
  obtain ⟨ι5, wr5, pl5, vr5⟩ := c5 pl4 wr4 vr4
  clear hA0 hval0
  obtain ⟨k, s', hrun⟩ := lawGatherPlays a0 w0 a1 w1 a2 w2 a3 w3 a4 w4 a5 w5
  refine (law_callsO (ys := #[v0, v1, v2, v3, v4, v5]) (orc_ok W hh hc) hrun wr5 vr5).mono fun e W' ⟨he, bel⟩ => ?_
  subst he
  exact ⟨_, rfl, _, _, _, [], _, [], hW', trodAll_mk1 (shut_bool Tryd.underlying4 _), (trodAll_cons_mk (Below.trod laidOut (by kernel_rfl) (of_decide_eq_true (by kernel_rfl)) k0 bel lt0) (trodAll_cons_mk (Below.trod laidOut (by kernel_rfl) (of_decide_eq_true (by kernel_rfl)) k1 bel lt1) (trodAll_cons_mk (Below.trod laidOut (by kernel_rfl) (of_decide_eq_true (by kernel_rfl)) k2 bel lt2) (trodAll_cons_mk (Below.trod laidOut (by kernel_rfl) (of_decide_eq_true (by kernel_rfl)) k3 bel lt3) (trodAll_cons_mk (Below.trod laidOut (by kernel_rfl) (of_decide_eq_true (by kernel_rfl)) k4 bel lt4) (trodAll_cons_mk (Below.trod laidOut (by kernel_rfl) (of_decide_eq_true (by kernel_rfl)) k5 bel lt5) trodAll_mk0)))))), rfl, bel.frame _, fun h => by cases h⟩
theorem over : Rows.gatherPlaysRow.holds Tryd.pinned (OpenSpec.ofChange Rows.gatherPlaysSpec) :=
  OpenClaim.holds_of_wide 3 Tryd.f3 rfl rfl rfl rfl rfl rfl rfl ⟨rfl, rfl, rfl, rfl, rfl⟩ rfl rfl rfl rfl rfl (by kernel_rfl) Tryd.func3 (by kernel_rfl)
    (of_decide_eq_true (by kernel_rfl)) (by unfold Func.isWrapper; first | (rw [if_pos (by decide +kernel)]; kernel_rfl) | (rw [if_neg (by decide +kernel)]; exact ⟨rfl, rfl⟩))
    (fun os started H enc _ => lifted os started H enc)
theorem proved : Rows.GatherPlaysSaid := over
theorem card : Rows.GatherPlaysCardSaid :=
  Claim7.holds_tied_plain_at .later [] [.data] true (true, "4ec401279f5cfaa1b7f80471637e91cb48ad457134a0777ccdd318bd1040e962") false
    proved (fun _ h => by cases h) (by kernel_rfl) (fun _ h => by cases h) gatherPlays_row_tie rfl ⟨rfl, rfl⟩ (by kernel_rfl) rfl
    (fun f fn hf hfn => by
      obtain rfl : f = 3 := Option.some.inj ((show Tryd.prog.funcNamed "unison/unisonlaw13.GatherPlays" = some 3 by kernel_rfl).symm.trans hf) |>.symm
      obtain rfl : fn = Tryd.f3 := (Option.some.inj (Tryd.func3.symm.trans hfn)).symm
      exact ⟨by kernel_rfl, fun j t ht => by
        rw [Tryd.params3] at ht
        have hm : t ∈ [3, 3, 3, 22, 25, 5] := by
          simpa using Array.mem_of_getElem? ht
        have hall : ([3, 3, 3, 22, 25, 5].all fun u => !Tryd.prog.wantsStandIn u) = true := by kernel_rfl
        exact (show Tryd.prog.wantsStandIn t = false by simpa using List.all_eq_true.1 hall t hm)⟩)
    (by kernel_rfl)
#print axioms card
end Go.Proofs.YtmkdpenpfkmfpaaDoor.gatherPlays
namespace Go.Proofs.YtmkdpenpfkmfpaaDoor
/-- The row, under a short name, for the claim. -/
theorem gatherPlays_holds : Rows.GatherPlaysCardSaid := gatherPlays.card
end Go.Proofs.YtmkdpenpfkmfpaaDoor
