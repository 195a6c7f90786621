/-
  No cell of these rows narrows 'for every input' (looked for: loops, veiled, ifaces, maps, wideKeys, modest, calm, conditions, laid).
  DERIVED. THE GIVEN ROWS OF THIS SEAT. 5 by the template 'for every input the law returns true; each argument reads behind the call as it read before'; 0 by the template 'total and deterministic' (their statements: YtofodhfijihibaaTotals.lean).
  GIVEN WITH THE SEED: the statements are not yours to turn. If you find one false, say at which input.
  Laid BY PROGRAM, IN A SANDBOX (cutbox-rows.mjs): the forced cells as the released guide's own fill.sh prints them over the translation a83f8cc2552e9ace… (all of the seat's roots in one cut). By AI agents, Wed Nov 11 2026. No macro, syntax, notation, axiom, sorry.
-/
import Derived.Test.YtofodhfijihibaaChecked
import GoSem.Claim
import GoSem.ClaimJoined
import GoSem.ClaimMapViews
import Derived.JoinedTies
import Derived.KernelRfl
namespace Go.Proofs.Ytofodhfijihibaa
/- THE CELL 'sum', in the pinned program and in every row, IS THE sha256 OF THE DUMP (.gsa) THAT YtofodhfijihibaaProg.lean LOADS. Nothing in Lean hashes anything: it is a label: what it is worth is what the hold of that sum in a sandbox is worth. -/
noncomputable def Try.pinned : Pinned := { name := "ytofodhfijihibaa", sum := "a83f8cc2552e9ace5a22241bad37bb1393c4ebeac9e054c7bbae5feac6e84d50", checked := Try.checked }
namespace Rows
def none {H : Type} : Left H := { results := [], args := [] }

/-- 'unisonlaw21.RoundMeets': WHATEVER THE INPUT: true; the input reads as it did. -/
def roundMeetsSpec : ChangeSpec := { name := "roundMeets", fn := fun _ => fun
  | [d1, d2, d3, d4] => { results := [.lit (.bool true)], args := [d1, d2, d3, d4] }
  | _ => none }
def roundMeetsRow : OpenClaim := { program := "ytofodhfijihibaa", sum := "a83f8cc2552e9ace5a22241bad37bb1393c4ebeac9e054c7bbae5feac6e84d50", func := "unison/unisonlaw21.RoundMeets", spec := "roundMeets", apart := false }
def RoundMeetsSaid : Prop := roundMeetsRow.holds Try.pinned (OpenSpec.ofChange roundMeetsSpec)

/-- ITS FALSE NEIGHBOUR: 'it returns false'. Refute it at one input. -/
def roundMeetsWrong : ChangeSpec := { name := "roundMeets", fn := fun _ => fun
  | [d1, d2, d3, d4] => { results := [.lit (.bool false)], args := [d1, d2, d3, d4] }
  | _ => none }
def RoundMeetsWrongFalsely : Prop := roundMeetsRow.holds Try.pinned (OpenSpec.ofChange roundMeetsWrong)

/-- 'unisonlaw21.RoundEnds': WHATEVER THE INPUT: true; the input reads as it did. -/
def roundEndsSpec : ChangeSpec := { name := "roundEnds", fn := fun _ => fun
  | [d1, d2, d3] => { results := [.lit (.bool true)], args := [d1, d2, d3] }
  | _ => none }
def roundEndsRow : OpenClaim := { program := "ytofodhfijihibaa", sum := "a83f8cc2552e9ace5a22241bad37bb1393c4ebeac9e054c7bbae5feac6e84d50", func := "unison/unisonlaw21.RoundEnds", spec := "roundEnds", apart := false }
def RoundEndsSaid : Prop := roundEndsRow.holds Try.pinned (OpenSpec.ofChange roundEndsSpec)

/-- ITS FALSE NEIGHBOUR: 'it returns false'. Refute it at one input. -/
def roundEndsWrong : ChangeSpec := { name := "roundEnds", fn := fun _ => fun
  | [d1, d2, d3] => { results := [.lit (.bool false)], args := [d1, d2, d3] }
  | _ => none }
def RoundEndsWrongFalsely : Prop := roundEndsRow.holds Try.pinned (OpenSpec.ofChange roundEndsWrong)

/-- 'unisonlaw21.RoundIs': WHATEVER THE INPUT: true; the input reads as it did. -/
def roundIsSpec : ChangeSpec := { name := "roundIs", fn := fun _ => fun
  | [d1, d2, d3, d4, d5, d6] => { results := [.lit (.bool true)], args := [d1, d2, d3, d4, d5, d6] }
  | _ => none }
def roundIsRow : OpenClaim := { program := "ytofodhfijihibaa", sum := "a83f8cc2552e9ace5a22241bad37bb1393c4ebeac9e054c7bbae5feac6e84d50", func := "unison/unisonlaw21.RoundIs", spec := "roundIs", apart := false }
def RoundIsSaid : Prop := roundIsRow.holds Try.pinned (OpenSpec.ofChange roundIsSpec)

/-- ITS FALSE NEIGHBOUR: 'it returns false'. Refute it at one input. -/
def roundIsWrong : ChangeSpec := { name := "roundIs", fn := fun _ => fun
  | [d1, d2, d3, d4, d5, d6] => { results := [.lit (.bool false)], args := [d1, d2, d3, d4, d5, d6] }
  | _ => none }
def RoundIsWrongFalsely : Prop := roundIsRow.holds Try.pinned (OpenSpec.ofChange roundIsWrong)

/-- 'unisonlaw21.RoundTurns': WHATEVER THE INPUT: true; the input reads as it did. -/
def roundTurnsSpec : ChangeSpec := { name := "roundTurns", fn := fun _ => fun
  | [d1, d2, d3] => { results := [.lit (.bool true)], args := [d1, d2, d3] }
  | _ => none }
def roundTurnsRow : OpenClaim := { program := "ytofodhfijihibaa", sum := "a83f8cc2552e9ace5a22241bad37bb1393c4ebeac9e054c7bbae5feac6e84d50", func := "unison/unisonlaw21.RoundTurns", spec := "roundTurns", apart := false }
def RoundTurnsSaid : Prop := roundTurnsRow.holds Try.pinned (OpenSpec.ofChange roundTurnsSpec)

/-- ITS FALSE NEIGHBOUR: 'it returns false'. Refute it at one input. -/
def roundTurnsWrong : ChangeSpec := { name := "roundTurns", fn := fun _ => fun
  | [d1, d2, d3] => { results := [.lit (.bool false)], args := [d1, d2, d3] }
  | _ => none }
def RoundTurnsWrongFalsely : Prop := roundTurnsRow.holds Try.pinned (OpenSpec.ofChange roundTurnsWrong)

/-- 'unisonlaw21.RoundCounts': WHATEVER THE INPUT: true; the input reads as it did. -/
def roundCountsSpec : ChangeSpec := { name := "roundCounts", fn := fun _ => fun
  | [d] => { results := [.lit (.bool true)], args := [d] }
  | _ => none }
def roundCountsRow : OpenClaim := { program := "ytofodhfijihibaa", sum := "a83f8cc2552e9ace5a22241bad37bb1393c4ebeac9e054c7bbae5feac6e84d50", func := "unison/unisonlaw21.RoundCounts", spec := "roundCounts", apart := false }
def RoundCountsSaid : Prop := roundCountsRow.holds Try.pinned (OpenSpec.ofChange roundCountsSpec)

/-- ITS FALSE NEIGHBOUR: 'it returns false'. Refute it at one input. -/
def roundCountsWrong : ChangeSpec := { name := "roundCounts", fn := fun _ => fun
  | [d] => { results := [.lit (.bool false)], args := [d] }
  | _ => none }
def RoundCountsWrongFalsely : Prop := roundCountsRow.holds Try.pinned (OpenSpec.ofChange roundCountsWrong)

/- THE SECOND FORM. 'bulk': how many values and letters a reading holds, each counted each time it is reached (what is shared counts as often as it is met; a slice's spare places count too). A statement '..UptoSaid' is the law's where the arguments, and the package variables that the reading takes, are together of bulk at most 1048576: NARROWER than '..Said'. Prove '..Said' where nothing that the law and all that it calls make is longer than what came in: it says more and counts as full. Else prove '..UptoSaid'. A law counts once. -/
mutual
def uptoBulk {H : Type} : DataW H → Nat
  | .lit (.string bytes) => bytes.length + 1
  | .lit _ => 1
  | .nil => 1
  | .ptr d => uptoBulk d + 1
  | .slice elems spare => uptoBulkAll elems + uptoBulkAll spare + 1
  | .agg parts => uptoBulkAll parts + 1
  | .iface _ d => uptoBulk d + 1
  | .map entries => uptoBulkEntries entries + 1
  | .held _ => 1
def uptoBulkAll {H : Type} : List (DataW H) → Nat
  | [] => 0
  | d :: r => uptoBulk d + uptoBulkAll r
def uptoBulkEntries {H : Type} : List (Lit × DataW H) → Nat
  | [] => 0
  | x :: r => uptoBulkEntry x + uptoBulkEntries r
def uptoBulkEntry {H : Type} : Lit × DataW H → Nat
  | (.string bytes, d) => bytes.length + uptoBulk d + 1
  | (_, d) => uptoBulk d + 1
 end
def uptoSmall : (H : Type) → List (DataW H) → Bool := fun _ ds => decide (uptoBulkAll ds ≤ 1048576)
def OpenSpec.upto (s : _root_.Go.ChangeSpec) : _root_.Go.OpenSpec := { _root_.Go.OpenSpec.ofChange s with cond := some uptoSmall }

/-- 'unisonlaw21.RoundMeets', WHERE WHAT IT READS IS OF BULK AT MOST 1048576: true; the input reads as it did. -/
def roundMeetsUptoRow : OpenClaim := { program := "ytofodhfijihibaa", sum := "a83f8cc2552e9ace5a22241bad37bb1393c4ebeac9e054c7bbae5feac6e84d50", func := "unison/unisonlaw21.RoundMeets", spec := "roundMeets", apart := false, narrowed := true }
def RoundMeetsUptoSaid : Prop := roundMeetsUptoRow.holds Try.pinned (OpenSpec.upto roundMeetsSpec)

/-- 'unisonlaw21.RoundEnds', WHERE WHAT IT READS IS OF BULK AT MOST 1048576: true; the input reads as it did. -/
def roundEndsUptoRow : OpenClaim := { program := "ytofodhfijihibaa", sum := "a83f8cc2552e9ace5a22241bad37bb1393c4ebeac9e054c7bbae5feac6e84d50", func := "unison/unisonlaw21.RoundEnds", spec := "roundEnds", apart := false, narrowed := true }
def RoundEndsUptoSaid : Prop := roundEndsUptoRow.holds Try.pinned (OpenSpec.upto roundEndsSpec)

/-- 'unisonlaw21.RoundIs', WHERE WHAT IT READS IS OF BULK AT MOST 1048576: true; the input reads as it did. -/
def roundIsUptoRow : OpenClaim := { program := "ytofodhfijihibaa", sum := "a83f8cc2552e9ace5a22241bad37bb1393c4ebeac9e054c7bbae5feac6e84d50", func := "unison/unisonlaw21.RoundIs", spec := "roundIs", apart := false, narrowed := true }
def RoundIsUptoSaid : Prop := roundIsUptoRow.holds Try.pinned (OpenSpec.upto roundIsSpec)

/-- 'unisonlaw21.RoundTurns', WHERE WHAT IT READS IS OF BULK AT MOST 1048576: true; the input reads as it did. -/
def roundTurnsUptoRow : OpenClaim := { program := "ytofodhfijihibaa", sum := "a83f8cc2552e9ace5a22241bad37bb1393c4ebeac9e054c7bbae5feac6e84d50", func := "unison/unisonlaw21.RoundTurns", spec := "roundTurns", apart := false, narrowed := true }
def RoundTurnsUptoSaid : Prop := roundTurnsUptoRow.holds Try.pinned (OpenSpec.upto roundTurnsSpec)

/-- 'unisonlaw21.RoundCounts', WHERE WHAT IT READS IS OF BULK AT MOST 1048576: true; the input reads as it did. -/
def roundCountsUptoRow : OpenClaim := { program := "ytofodhfijihibaa", sum := "a83f8cc2552e9ace5a22241bad37bb1393c4ebeac9e054c7bbae5feac6e84d50", func := "unison/unisonlaw21.RoundCounts", spec := "roundCounts", apart := false, narrowed := true }
def RoundCountsUptoSaid : Prop := roundCountsUptoRow.holds Try.pinned (OpenSpec.upto roundCountsSpec)

end Rows
end Go.Proofs.Ytofodhfijihibaa
