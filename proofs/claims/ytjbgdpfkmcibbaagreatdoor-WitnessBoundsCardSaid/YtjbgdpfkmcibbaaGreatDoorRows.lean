/-
  NARROWER THAN 'FOR EVERY INPUT', by the rows' own cells (each row's printed sentence says how): WitnessMakes: laid · WitnessLong: laid · WitnessBounds: laid · WitnessSettles: laid.
  DERIVED. THE GIVEN ROWS OF THIS SEAT. 4 by the template 'for every input the law returns true; each argument reads behind the call as it read before'; 0 by the template 'total and deterministic' (their statements: YtjbgdpfkmcibbaaGreatDoorTotals.lean).
  GIVEN WITH THE SEED: the statements are not yours to turn. If you find one false, say at which input.
  Laid BY PROGRAM, IN A SANDBOX (cutbox-rows.mjs): the forced cells as the released guide's own fill.sh prints them over the translation 8d30219c131c64dc… (all of the seat's roots in one cut). By AI agents, Wed Nov 11 2026. No macro, syntax, notation, axiom, sorry.
-/
import Derived.Test.YtjbgdpfkmcibbaaGreatDoorChecked
import GoSem.Claim
import GoSem.ClaimJoined
import GoSem.ClaimMapViews
import Derived.JoinedTies
import Derived.KernelRfl
namespace Go.Proofs.YtjbgdpfkmcibbaaGreatDoor
/- THE CELL 'sum', in the pinned program and in every row, IS THE sha256 OF THE DUMP (.gsa) THAT YtjbgdpfkmcibbaaGreatDoorProg.lean LOADS. Nothing in Lean hashes anything: it is a label: what it is worth is what the hold of that sum in a sandbox is worth. -/
noncomputable def Tryz.pinned : Pinned := { name := "ytjbgdpfkmcibbaagreatdoor", sum := "8d30219c131c64dcf9667260edbf32e5593569d2e890153f2b5a836c24e66df4", checked := Tryz.checked }
namespace Rows
def none {H : Type} : Left H := { results := [], args := [] }

/- WHAT THE LISTED PACKAGE-LEVEL VARIABLES READ AS WHEN THE CALL BEGINS. Each datum BY PROGRAM (the guide's laid-datum.mjs) off the statement by which the dump's own 'gosem.cut.vars' lays the variable. In a bare row this is a premise. The card (YtjbgdpfkmcibbaaGreatDoorCards.lean) ties it to the program's text. -/
def laid_math_bits_deBruijn64tab {H : Type} : DataW H := .agg [.lit (.int .u8 0), .lit (.int .u8 1), .lit (.int .u8 56), .lit (.int .u8 2), .lit (.int .u8 57), .lit (.int .u8 49), .lit (.int .u8 28), .lit (.int .u8 3), .lit (.int .u8 61), .lit (.int .u8 58), .lit (.int .u8 42), .lit (.int .u8 50), .lit (.int .u8 38), .lit (.int .u8 29), .lit (.int .u8 17), .lit (.int .u8 4), .lit (.int .u8 62), .lit (.int .u8 47), .lit (.int .u8 59), .lit (.int .u8 36), .lit (.int .u8 45), .lit (.int .u8 43), .lit (.int .u8 51), .lit (.int .u8 22), .lit (.int .u8 53), .lit (.int .u8 39), .lit (.int .u8 33), .lit (.int .u8 30), .lit (.int .u8 24), .lit (.int .u8 18), .lit (.int .u8 12), .lit (.int .u8 5), .lit (.int .u8 63), .lit (.int .u8 55), .lit (.int .u8 48), .lit (.int .u8 27), .lit (.int .u8 60), .lit (.int .u8 41), .lit (.int .u8 37), .lit (.int .u8 16), .lit (.int .u8 46), .lit (.int .u8 35), .lit (.int .u8 44), .lit (.int .u8 21), .lit (.int .u8 52), .lit (.int .u8 32), .lit (.int .u8 23), .lit (.int .u8 11), .lit (.int .u8 54), .lit (.int .u8 26), .lit (.int .u8 40), .lit (.int .u8 15), .lit (.int .u8 34), .lit (.int .u8 20), .lit (.int .u8 31), .lit (.int .u8 10), .lit (.int .u8 25), .lit (.int .u8 14), .lit (.int .u8 19), .lit (.int .u8 9), .lit (.int .u8 13), .lit (.int .u8 8), .lit (.int .u8 7), .lit (.int .u8 6)]

/-- 'unisonlaw29.WitnessMakes': WHATEVER THE INPUT: true; the input reads as it did. -/
def witnessMakesSpec : ChangeSpec := { name := "witnessMakes", fn := fun _ => fun
  | [d1, d2, d3] => { results := [.lit (.bool true)], args := [d1, d2, d3] }
  | _ => none }
def witnessMakesRow : OpenClaim := { program := "ytjbgdpfkmcibbaagreatdoor", sum := "8d30219c131c64dcf9667260edbf32e5593569d2e890153f2b5a836c24e66df4", func := "unison/unisonlaw29.WitnessMakes", spec := "witnessMakes", unfollowed := true, recurses := true, named := ["math/bits.deBruijn64tab"], plainKeys := false, apart := false, laid := [("math/bits.deBruijn64tab", laid_math_bits_deBruijn64tab)] }
def WitnessMakesSaid : Prop := witnessMakesRow.holds Tryz.pinned (OpenSpec.ofChange witnessMakesSpec)

/-- ITS FALSE NEIGHBOUR: 'it returns false'. Refute it at one input. -/
def witnessMakesWrong : ChangeSpec := { name := "witnessMakes", fn := fun _ => fun
  | [d1, d2, d3] => { results := [.lit (.bool false)], args := [d1, d2, d3] }
  | _ => none }
def WitnessMakesWrongFalsely : Prop := witnessMakesRow.holds Tryz.pinned (OpenSpec.ofChange witnessMakesWrong)

/-- 'unisonlaw29.WitnessLong': WHATEVER THE INPUT: true; the input reads as it did. -/
def witnessLongSpec : ChangeSpec := { name := "witnessLong", fn := fun _ => fun
  | [d1, d2] => { results := [.lit (.bool true)], args := [d1, d2] }
  | _ => none }
def witnessLongRow : OpenClaim := { program := "ytjbgdpfkmcibbaagreatdoor", sum := "8d30219c131c64dcf9667260edbf32e5593569d2e890153f2b5a836c24e66df4", func := "unison/unisonlaw29.WitnessLong", spec := "witnessLong", unfollowed := true, recurses := true, named := ["math/bits.deBruijn64tab"], plainKeys := false, apart := false, laid := [("math/bits.deBruijn64tab", laid_math_bits_deBruijn64tab)] }
def WitnessLongSaid : Prop := witnessLongRow.holds Tryz.pinned (OpenSpec.ofChange witnessLongSpec)

/-- ITS FALSE NEIGHBOUR: 'it returns false'. Refute it at one input. -/
def witnessLongWrong : ChangeSpec := { name := "witnessLong", fn := fun _ => fun
  | [d1, d2] => { results := [.lit (.bool false)], args := [d1, d2] }
  | _ => none }
def WitnessLongWrongFalsely : Prop := witnessLongRow.holds Tryz.pinned (OpenSpec.ofChange witnessLongWrong)

/-- 'unisonlaw29.WitnessBounds': WHATEVER THE INPUT: true; the input reads as it did. -/
def witnessBoundsSpec : ChangeSpec := { name := "witnessBounds", fn := fun _ => fun
  | [d1, d2, d3] => { results := [.lit (.bool true)], args := [d1, d2, d3] }
  | _ => none }
def witnessBoundsRow : OpenClaim := { program := "ytjbgdpfkmcibbaagreatdoor", sum := "8d30219c131c64dcf9667260edbf32e5593569d2e890153f2b5a836c24e66df4", func := "unison/unisonlaw29.WitnessBounds", spec := "witnessBounds", unfollowed := true, recurses := true, named := ["math/bits.deBruijn64tab"], plainKeys := false, apart := false, laid := [("math/bits.deBruijn64tab", laid_math_bits_deBruijn64tab)] }
def WitnessBoundsSaid : Prop := witnessBoundsRow.holds Tryz.pinned (OpenSpec.ofChange witnessBoundsSpec)

/-- ITS FALSE NEIGHBOUR: 'it returns false'. Refute it at one input. -/
def witnessBoundsWrong : ChangeSpec := { name := "witnessBounds", fn := fun _ => fun
  | [d1, d2, d3] => { results := [.lit (.bool false)], args := [d1, d2, d3] }
  | _ => none }
def WitnessBoundsWrongFalsely : Prop := witnessBoundsRow.holds Tryz.pinned (OpenSpec.ofChange witnessBoundsWrong)

/-- 'unisonlaw29.WitnessSettles': WHATEVER THE INPUT: true; the input reads as it did. -/
def witnessSettlesSpec : ChangeSpec := { name := "witnessSettles", fn := fun _ => fun
  | [d1, d2, d3] => { results := [.lit (.bool true)], args := [d1, d2, d3] }
  | _ => none }
def witnessSettlesRow : OpenClaim := { program := "ytjbgdpfkmcibbaagreatdoor", sum := "8d30219c131c64dcf9667260edbf32e5593569d2e890153f2b5a836c24e66df4", func := "unison/unisonlaw29.WitnessSettles", spec := "witnessSettles", unfollowed := true, recurses := true, named := ["math/bits.deBruijn64tab"], plainKeys := false, apart := false, laid := [("math/bits.deBruijn64tab", laid_math_bits_deBruijn64tab)] }
def WitnessSettlesSaid : Prop := witnessSettlesRow.holds Tryz.pinned (OpenSpec.ofChange witnessSettlesSpec)

/-- ITS FALSE NEIGHBOUR: 'it returns false'. Refute it at one input. -/
def witnessSettlesWrong : ChangeSpec := { name := "witnessSettles", fn := fun _ => fun
  | [d1, d2, d3] => { results := [.lit (.bool false)], args := [d1, d2, d3] }
  | _ => none }
def WitnessSettlesWrongFalsely : Prop := witnessSettlesRow.holds Tryz.pinned (OpenSpec.ofChange witnessSettlesWrong)

/- THE SECOND FORM. 'bulk': how many values and letters a reading holds, each counted each time it is reached (what is shared counts as often as it is met; a slice's spare places count too). A statement '..UptoSaid' is the law's where the arguments, and the package variables that the reading takes, are together of bulk at most 1048576: NARROWER than '..Said'. Prove '..Said' where nothing that the law and all that it calls make is longer than what came in: it says more and counts as full. Else prove '..UptoSaid'. A law counts once. -/
mutual
def uptoBulk {H : Type} : DataW H → Nat
  | .lit (.string bytes) => bytes.length + 1
  | .lit _ => 1
  | .nil => 1
  | .ptr d => uptoBulk d + 1
  | .slice elems spare => uptoBulkAll elems + uptoBulkAll spare + 1
  | .agg parts => uptoBulkAll parts + 1
  | .iface _ d => uptoBulk d + 1
  | .map entries => uptoBulkEntries entries + 1
  | .held _ => 1
def uptoBulkAll {H : Type} : List (DataW H) → Nat
  | [] => 0
  | d :: r => uptoBulk d + uptoBulkAll r
def uptoBulkEntries {H : Type} : List (Lit × DataW H) → Nat
  | [] => 0
  | x :: r => uptoBulkEntry x + uptoBulkEntries r
def uptoBulkEntry {H : Type} : Lit × DataW H → Nat
  | (.string bytes, d) => bytes.length + uptoBulk d + 1
  | (_, d) => uptoBulk d + 1
 end
def uptoSmall : (H : Type) → List (DataW H) → Bool := fun _ ds => decide (uptoBulkAll ds ≤ 1048576)
def OpenSpec.upto (s : _root_.Go.ChangeSpec) : _root_.Go.OpenSpec := { _root_.Go.OpenSpec.ofChange s with cond := some uptoSmall }

/-- 'unisonlaw29.WitnessMakes', WHERE WHAT IT READS IS OF BULK AT MOST 1048576: true; the input reads as it did. -/
def witnessMakesUptoRow : OpenClaim := { program := "ytjbgdpfkmcibbaagreatdoor", sum := "8d30219c131c64dcf9667260edbf32e5593569d2e890153f2b5a836c24e66df4", func := "unison/unisonlaw29.WitnessMakes", spec := "witnessMakes", unfollowed := true, recurses := true, named := ["math/bits.deBruijn64tab"], plainKeys := false, apart := false, laid := [("math/bits.deBruijn64tab", laid_math_bits_deBruijn64tab)], narrowed := true }
def WitnessMakesUptoSaid : Prop := witnessMakesUptoRow.holds Tryz.pinned (OpenSpec.upto witnessMakesSpec)

/-- 'unisonlaw29.WitnessLong', WHERE WHAT IT READS IS OF BULK AT MOST 1048576: true; the input reads as it did. -/
def witnessLongUptoRow : OpenClaim := { program := "ytjbgdpfkmcibbaagreatdoor", sum := "8d30219c131c64dcf9667260edbf32e5593569d2e890153f2b5a836c24e66df4", func := "unison/unisonlaw29.WitnessLong", spec := "witnessLong", unfollowed := true, recurses := true, named := ["math/bits.deBruijn64tab"], plainKeys := false, apart := false, laid := [("math/bits.deBruijn64tab", laid_math_bits_deBruijn64tab)], narrowed := true }
def WitnessLongUptoSaid : Prop := witnessLongUptoRow.holds Tryz.pinned (OpenSpec.upto witnessLongSpec)

/-- 'unisonlaw29.WitnessBounds', WHERE WHAT IT READS IS OF BULK AT MOST 1048576: true; the input reads as it did. -/
def witnessBoundsUptoRow : OpenClaim := { program := "ytjbgdpfkmcibbaagreatdoor", sum := "8d30219c131c64dcf9667260edbf32e5593569d2e890153f2b5a836c24e66df4", func := "unison/unisonlaw29.WitnessBounds", spec := "witnessBounds", unfollowed := true, recurses := true, named := ["math/bits.deBruijn64tab"], plainKeys := false, apart := false, laid := [("math/bits.deBruijn64tab", laid_math_bits_deBruijn64tab)], narrowed := true }
def WitnessBoundsUptoSaid : Prop := witnessBoundsUptoRow.holds Tryz.pinned (OpenSpec.upto witnessBoundsSpec)

/-- 'unisonlaw29.WitnessSettles', WHERE WHAT IT READS IS OF BULK AT MOST 1048576: true; the input reads as it did. -/
def witnessSettlesUptoRow : OpenClaim := { program := "ytjbgdpfkmcibbaagreatdoor", sum := "8d30219c131c64dcf9667260edbf32e5593569d2e890153f2b5a836c24e66df4", func := "unison/unisonlaw29.WitnessSettles", spec := "witnessSettles", unfollowed := true, recurses := true, named := ["math/bits.deBruijn64tab"], plainKeys := false, apart := false, laid := [("math/bits.deBruijn64tab", laid_math_bits_deBruijn64tab)], narrowed := true }
def WitnessSettlesUptoSaid : Prop := witnessSettlesUptoRow.holds Tryz.pinned (OpenSpec.upto witnessSettlesSpec)

end Rows
end Go.Proofs.YtjbgdpfkmcibbaaGreatDoor
