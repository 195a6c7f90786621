/-
  No cell of these rows narrows 'for every input' (looked for: loops, veiled, ifaces, maps, wideKeys, modest, calm, conditions, laid).
  DERIVED. THE GIVEN ROWS OF THIS SEAT. 4 by the template 'for every input the law returns true; each argument reads behind the call as it read before'; 0 by the template 'total and deterministic' (their statements: YtkfdgegmahbkiaaTotals.lean).
  GIVEN WITH THE SEED: the statements are not yours to turn. If you find one false, say at which input.
  Laid BY PROGRAM, IN A SANDBOX (cutbox-rows.mjs): the forced cells as the released guide's own fill.sh prints them over the translation 7bf72f9d22206f15… (all of the seat's roots in one cut). By AI agents, Wed Nov 11 2026. No macro, syntax, notation, axiom, sorry.
-/
import Derived.Test.YtkfdgegmahbkiaaChecked
import GoSem.Claim
import GoSem.ClaimJoined
import GoSem.ClaimMapViews
import Derived.JoinedTies
import Derived.KernelRfl
namespace Go.Proofs.Ytkfdgegmahbkiaa
/- THE CELL 'sum', in the pinned program and in every row, IS THE sha256 OF THE DUMP (.gsa) THAT YtkfdgegmahbkiaaProg.lean LOADS. Nothing in Lean hashes anything: it is a label: what it is worth is what the hold of that sum in a sandbox is worth. -/
noncomputable def Try.pinned : Pinned := { name := "ytkfdgegmahbkiaa", sum := "7bf72f9d22206f157427083ac9f47bcd35c27f540c43f322cde73eb417b43984", checked := Try.checked }
namespace Rows
def none {H : Type} : Left H := { results := [], args := [] }

/-- 'unisonlaw06.WireGets': WHATEVER THE INPUT: true; the input reads as it did. -/
def wireGetsSpec : ChangeSpec := { name := "wireGets", fn := fun _ => fun
  | [d] => { results := [.lit (.bool true)], args := [d] }
  | _ => none }
def wireGetsRow : OpenClaim := { program := "ytkfdgegmahbkiaa", sum := "7bf72f9d22206f157427083ac9f47bcd35c27f540c43f322cde73eb417b43984", func := "unison/unisonlaw06.WireGets", spec := "wireGets", unfollowed := true, recurses := true, apart := false }
def WireGetsSaid : Prop := wireGetsRow.holds Try.pinned (OpenSpec.ofChange wireGetsSpec)

/-- ITS FALSE NEIGHBOUR: 'it returns false'. Refute it at one input. -/
def wireGetsWrong : ChangeSpec := { name := "wireGets", fn := fun _ => fun
  | [d] => { results := [.lit (.bool false)], args := [d] }
  | _ => none }
def WireGetsWrongFalsely : Prop := wireGetsRow.holds Try.pinned (OpenSpec.ofChange wireGetsWrong)

/-- 'unisonlaw06.WireMarked': WHATEVER THE INPUT: true; the input reads as it did. -/
def wireMarkedSpec : ChangeSpec := { name := "wireMarked", fn := fun _ => fun
  | [d] => { results := [.lit (.bool true)], args := [d] }
  | _ => none }
def wireMarkedRow : OpenClaim := { program := "ytkfdgegmahbkiaa", sum := "7bf72f9d22206f157427083ac9f47bcd35c27f540c43f322cde73eb417b43984", func := "unison/unisonlaw06.WireMarked", spec := "wireMarked", unfollowed := true, recurses := true, apart := false }
def WireMarkedSaid : Prop := wireMarkedRow.holds Try.pinned (OpenSpec.ofChange wireMarkedSpec)

/-- ITS FALSE NEIGHBOUR: 'it returns false'. Refute it at one input. -/
def wireMarkedWrong : ChangeSpec := { name := "wireMarked", fn := fun _ => fun
  | [d] => { results := [.lit (.bool false)], args := [d] }
  | _ => none }
def WireMarkedWrongFalsely : Prop := wireMarkedRow.holds Try.pinned (OpenSpec.ofChange wireMarkedWrong)

/-- 'unisonlaw06.WireOne': WHATEVER THE INPUT: true; the input reads as it did. -/
def wireOneSpec : ChangeSpec := { name := "wireOne", fn := fun _ => fun
  | [d] => { results := [.lit (.bool true)], args := [d] }
  | _ => none }
def wireOneRow : OpenClaim := { program := "ytkfdgegmahbkiaa", sum := "7bf72f9d22206f157427083ac9f47bcd35c27f540c43f322cde73eb417b43984", func := "unison/unisonlaw06.WireOne", spec := "wireOne", unfollowed := true, recurses := true, apart := false }
def WireOneSaid : Prop := wireOneRow.holds Try.pinned (OpenSpec.ofChange wireOneSpec)

/-- ITS FALSE NEIGHBOUR: 'it returns false'. Refute it at one input. -/
def wireOneWrong : ChangeSpec := { name := "wireOne", fn := fun _ => fun
  | [d] => { results := [.lit (.bool false)], args := [d] }
  | _ => none }
def WireOneWrongFalsely : Prop := wireOneRow.holds Try.pinned (OpenSpec.ofChange wireOneWrong)

/-- 'unisonlaw06.WireTurned': WHATEVER THE INPUT: true; the input reads as it did. -/
def wireTurnedSpec : ChangeSpec := { name := "wireTurned", fn := fun _ => fun
  | [d1, d2, d3] => { results := [.lit (.bool true)], args := [d1, d2, d3] }
  | _ => none }
def wireTurnedRow : OpenClaim := { program := "ytkfdgegmahbkiaa", sum := "7bf72f9d22206f157427083ac9f47bcd35c27f540c43f322cde73eb417b43984", func := "unison/unisonlaw06.WireTurned", spec := "wireTurned", unfollowed := true, recurses := true, apart := false }
def WireTurnedSaid : Prop := wireTurnedRow.holds Try.pinned (OpenSpec.ofChange wireTurnedSpec)

/-- ITS FALSE NEIGHBOUR: 'it returns false'. Refute it at one input. -/
def wireTurnedWrong : ChangeSpec := { name := "wireTurned", fn := fun _ => fun
  | [d1, d2, d3] => { results := [.lit (.bool false)], args := [d1, d2, d3] }
  | _ => none }
def WireTurnedWrongFalsely : Prop := wireTurnedRow.holds Try.pinned (OpenSpec.ofChange wireTurnedWrong)

/- THE SECOND FORM. 'bulk': how many values and letters a reading holds, each counted each time it is reached (what is shared counts as often as it is met; a slice's spare places count too). A statement '..UptoSaid' is the law's where the arguments, and the package variables that the reading takes, are together of bulk at most 1048576: NARROWER than '..Said'. Prove '..Said' where nothing that the law and all that it calls make is longer than what came in: it says more and counts as full. Else prove '..UptoSaid'. A law counts once. -/
mutual
def uptoBulk {H : Type} : DataW H → Nat
  | .lit (.string bytes) => bytes.length + 1
  | .lit _ => 1
  | .nil => 1
  | .ptr d => uptoBulk d + 1
  | .slice elems spare => uptoBulkAll elems + uptoBulkAll spare + 1
  | .agg parts => uptoBulkAll parts + 1
  | .iface _ d => uptoBulk d + 1
  | .map entries => uptoBulkEntries entries + 1
  | .held _ => 1
def uptoBulkAll {H : Type} : List (DataW H) → Nat
  | [] => 0
  | d :: r => uptoBulk d + uptoBulkAll r
def uptoBulkEntries {H : Type} : List (Lit × DataW H) → Nat
  | [] => 0
  | x :: r => uptoBulkEntry x + uptoBulkEntries r
def uptoBulkEntry {H : Type} : Lit × DataW H → Nat
  | (.string bytes, d) => bytes.length + uptoBulk d + 1
  | (_, d) => uptoBulk d + 1
 end
def uptoSmall : (H : Type) → List (DataW H) → Bool := fun _ ds => decide (uptoBulkAll ds ≤ 1048576)
def OpenSpec.upto (s : _root_.Go.ChangeSpec) : _root_.Go.OpenSpec := { _root_.Go.OpenSpec.ofChange s with cond := some uptoSmall }

/-- 'unisonlaw06.WireGets', WHERE WHAT IT READS IS OF BULK AT MOST 1048576: true; the input reads as it did. -/
def wireGetsUptoRow : OpenClaim := { program := "ytkfdgegmahbkiaa", sum := "7bf72f9d22206f157427083ac9f47bcd35c27f540c43f322cde73eb417b43984", func := "unison/unisonlaw06.WireGets", spec := "wireGets", unfollowed := true, recurses := true, apart := false, narrowed := true }
def WireGetsUptoSaid : Prop := wireGetsUptoRow.holds Try.pinned (OpenSpec.upto wireGetsSpec)

/-- 'unisonlaw06.WireMarked', WHERE WHAT IT READS IS OF BULK AT MOST 1048576: true; the input reads as it did. -/
def wireMarkedUptoRow : OpenClaim := { program := "ytkfdgegmahbkiaa", sum := "7bf72f9d22206f157427083ac9f47bcd35c27f540c43f322cde73eb417b43984", func := "unison/unisonlaw06.WireMarked", spec := "wireMarked", unfollowed := true, recurses := true, apart := false, narrowed := true }
def WireMarkedUptoSaid : Prop := wireMarkedUptoRow.holds Try.pinned (OpenSpec.upto wireMarkedSpec)

/-- 'unisonlaw06.WireOne', WHERE WHAT IT READS IS OF BULK AT MOST 1048576: true; the input reads as it did. -/
def wireOneUptoRow : OpenClaim := { program := "ytkfdgegmahbkiaa", sum := "7bf72f9d22206f157427083ac9f47bcd35c27f540c43f322cde73eb417b43984", func := "unison/unisonlaw06.WireOne", spec := "wireOne", unfollowed := true, recurses := true, apart := false, narrowed := true }
def WireOneUptoSaid : Prop := wireOneUptoRow.holds Try.pinned (OpenSpec.upto wireOneSpec)

/-- 'unisonlaw06.WireTurned', WHERE WHAT IT READS IS OF BULK AT MOST 1048576: true; the input reads as it did. -/
def wireTurnedUptoRow : OpenClaim := { program := "ytkfdgegmahbkiaa", sum := "7bf72f9d22206f157427083ac9f47bcd35c27f540c43f322cde73eb417b43984", func := "unison/unisonlaw06.WireTurned", spec := "wireTurned", unfollowed := true, recurses := true, apart := false, narrowed := true }
def WireTurnedUptoSaid : Prop := wireTurnedUptoRow.holds Try.pinned (OpenSpec.upto wireTurnedSpec)

end Rows
end Go.Proofs.Ytkfdgegmahbkiaa
