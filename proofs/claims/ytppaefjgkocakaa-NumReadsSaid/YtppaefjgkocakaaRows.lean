/-
  No cell of these rows narrows 'for every input' (looked for: loops, veiled, ifaces, maps, wideKeys, modest, calm, conditions, laid).
  DERIVED. THE GIVEN ROWS OF THIS SEAT. 5 by the template 'for every input the law returns true; each argument reads behind the call as it read before'; 0 by the template 'total and deterministic' (their statements: YtppaefjgkocakaaTotals.lean).
  GIVEN WITH THE SEED: the statements are not yours to turn. If you find one false, say at which input.
  Laid BY PROGRAM, IN A SANDBOX (cutbox-rows.mjs): the forced cells as the released guide's own fill.sh prints them over the translation fbfe9a95ffe12a6e… (all of the seat's roots in one cut). By AI agents, Wed Nov 11 2026. No macro, syntax, notation, axiom, sorry.
-/
import Derived.Test.YtppaefjgkocakaaChecked
import GoSem.Claim
import GoSem.ClaimJoined
import GoSem.ClaimMapViews
import Derived.JoinedTies
import Derived.KernelRfl
namespace Go.Proofs.Ytppaefjgkocakaa
/- THE CELL 'sum', in the pinned program and in every row, IS THE sha256 OF THE DUMP (.gsa) THAT YtppaefjgkocakaaProg.lean LOADS. Nothing in Lean hashes anything: it is a label: what it is worth is what the hold of that sum in a sandbox is worth. -/
noncomputable def Try.pinned : Pinned := { name := "ytppaefjgkocakaa", sum := "fbfe9a95ffe12a6ed8879211ce6a4f52e5e48878345a3e9c90c06f588f6c8fc7", checked := Try.checked }
namespace Rows
def none {H : Type} : Left H := { results := [], args := [] }

/-- 'unisonlaw01.NumOne': WHATEVER THE INPUT: true; the input reads as it did. -/
def numOneSpec : ChangeSpec := { name := "numOne", fn := fun _ => fun
  | [d] => { results := [.lit (.bool true)], args := [d] }
  | _ => none }
def numOneRow : OpenClaim := { program := "ytppaefjgkocakaa", sum := "fbfe9a95ffe12a6ed8879211ce6a4f52e5e48878345a3e9c90c06f588f6c8fc7", func := "unison/unisonlaw01.NumOne", spec := "numOne", apart := false }
def NumOneSaid : Prop := numOneRow.holds Try.pinned (OpenSpec.ofChange numOneSpec)

/-- ITS FALSE NEIGHBOUR: 'it returns false'. Refute it at one input. -/
def numOneWrong : ChangeSpec := { name := "numOne", fn := fun _ => fun
  | [d] => { results := [.lit (.bool false)], args := [d] }
  | _ => none }
def NumOneWrongFalsely : Prop := numOneRow.holds Try.pinned (OpenSpec.ofChange numOneWrong)

/-- 'unisonlaw01.NumPuts': WHATEVER THE INPUT: true; the input reads as it did. -/
def numPutsSpec : ChangeSpec := { name := "numPuts", fn := fun _ => fun
  | [d1, d2, d3] => { results := [.lit (.bool true)], args := [d1, d2, d3] }
  | _ => none }
def numPutsRow : OpenClaim := { program := "ytppaefjgkocakaa", sum := "fbfe9a95ffe12a6ed8879211ce6a4f52e5e48878345a3e9c90c06f588f6c8fc7", func := "unison/unisonlaw01.NumPuts", spec := "numPuts", apart := false }
def NumPutsSaid : Prop := numPutsRow.holds Try.pinned (OpenSpec.ofChange numPutsSpec)

/-- ITS FALSE NEIGHBOUR: 'it returns false'. Refute it at one input. -/
def numPutsWrong : ChangeSpec := { name := "numPuts", fn := fun _ => fun
  | [d1, d2, d3] => { results := [.lit (.bool false)], args := [d1, d2, d3] }
  | _ => none }
def NumPutsWrongFalsely : Prop := numPutsRow.holds Try.pinned (OpenSpec.ofChange numPutsWrong)

/-- 'unisonlaw01.NumReads': WHATEVER THE INPUT: true; the input reads as it did. -/
def numReadsSpec : ChangeSpec := { name := "numReads", fn := fun _ => fun
  | [d1, d2] => { results := [.lit (.bool true)], args := [d1, d2] }
  | _ => none }
def numReadsRow : OpenClaim := { program := "ytppaefjgkocakaa", sum := "fbfe9a95ffe12a6ed8879211ce6a4f52e5e48878345a3e9c90c06f588f6c8fc7", func := "unison/unisonlaw01.NumReads", spec := "numReads", apart := false }
def NumReadsSaid : Prop := numReadsRow.holds Try.pinned (OpenSpec.ofChange numReadsSpec)

/-- ITS FALSE NEIGHBOUR: 'it returns false'. Refute it at one input. -/
def numReadsWrong : ChangeSpec := { name := "numReads", fn := fun _ => fun
  | [d1, d2] => { results := [.lit (.bool false)], args := [d1, d2] }
  | _ => none }
def NumReadsWrongFalsely : Prop := numReadsRow.holds Try.pinned (OpenSpec.ofChange numReadsWrong)

/-- 'unisonlaw01.NumNil': WHATEVER THE INPUT: true; the input reads as it did. -/
def numNilSpec : ChangeSpec := { name := "numNil", fn := fun _ => fun
  | [d1, d2] => { results := [.lit (.bool true)], args := [d1, d2] }
  | _ => none }
def numNilRow : OpenClaim := { program := "ytppaefjgkocakaa", sum := "fbfe9a95ffe12a6ed8879211ce6a4f52e5e48878345a3e9c90c06f588f6c8fc7", func := "unison/unisonlaw01.NumNil", spec := "numNil", apart := false }
def NumNilSaid : Prop := numNilRow.holds Try.pinned (OpenSpec.ofChange numNilSpec)

/-- ITS FALSE NEIGHBOUR: 'it returns false'. Refute it at one input. -/
def numNilWrong : ChangeSpec := { name := "numNil", fn := fun _ => fun
  | [d1, d2] => { results := [.lit (.bool false)], args := [d1, d2] }
  | _ => none }
def NumNilWrongFalsely : Prop := numNilRow.holds Try.pinned (OpenSpec.ofChange numNilWrong)

/-- 'unisonlaw01.NumBack': WHATEVER THE INPUT: true; the input reads as it did. -/
def numBackSpec : ChangeSpec := { name := "numBack", fn := fun _ => fun
  | [d1, d2] => { results := [.lit (.bool true)], args := [d1, d2] }
  | _ => none }
def numBackRow : OpenClaim := { program := "ytppaefjgkocakaa", sum := "fbfe9a95ffe12a6ed8879211ce6a4f52e5e48878345a3e9c90c06f588f6c8fc7", func := "unison/unisonlaw01.NumBack", spec := "numBack", apart := false }
def NumBackSaid : Prop := numBackRow.holds Try.pinned (OpenSpec.ofChange numBackSpec)

/-- ITS FALSE NEIGHBOUR: 'it returns false'. Refute it at one input. -/
def numBackWrong : ChangeSpec := { name := "numBack", fn := fun _ => fun
  | [d1, d2] => { results := [.lit (.bool false)], args := [d1, d2] }
  | _ => none }
def NumBackWrongFalsely : Prop := numBackRow.holds Try.pinned (OpenSpec.ofChange numBackWrong)

/- THE SECOND FORM. 'bulk': how many values and letters a reading holds, each counted each time it is reached (what is shared counts as often as it is met; a slice's spare places count too). A statement '..UptoSaid' is the law's where the arguments, and the package variables that the reading takes, are together of bulk at most 1048576: NARROWER than '..Said'. Prove '..Said' where nothing that the law and all that it calls make is longer than what came in: it says more and counts as full. Else prove '..UptoSaid'. A law counts once. -/
mutual
def uptoBulk {H : Type} : DataW H → Nat
  | .lit (.string bytes) => bytes.length + 1
  | .lit _ => 1
  | .nil => 1
  | .ptr d => uptoBulk d + 1
  | .slice elems spare => uptoBulkAll elems + uptoBulkAll spare + 1
  | .agg parts => uptoBulkAll parts + 1
  | .iface _ d => uptoBulk d + 1
  | .map entries => uptoBulkEntries entries + 1
  | .held _ => 1
def uptoBulkAll {H : Type} : List (DataW H) → Nat
  | [] => 0
  | d :: r => uptoBulk d + uptoBulkAll r
def uptoBulkEntries {H : Type} : List (Lit × DataW H) → Nat
  | [] => 0
  | x :: r => uptoBulkEntry x + uptoBulkEntries r
def uptoBulkEntry {H : Type} : Lit × DataW H → Nat
  | (.string bytes, d) => bytes.length + uptoBulk d + 1
  | (_, d) => uptoBulk d + 1
 end
def uptoSmall : (H : Type) → List (DataW H) → Bool := fun _ ds => decide (uptoBulkAll ds ≤ 1048576)
def OpenSpec.upto (s : _root_.Go.ChangeSpec) : _root_.Go.OpenSpec := { _root_.Go.OpenSpec.ofChange s with cond := some uptoSmall }

/-- 'unisonlaw01.NumOne', WHERE WHAT IT READS IS OF BULK AT MOST 1048576: true; the input reads as it did. -/
def numOneUptoRow : OpenClaim := { program := "ytppaefjgkocakaa", sum := "fbfe9a95ffe12a6ed8879211ce6a4f52e5e48878345a3e9c90c06f588f6c8fc7", func := "unison/unisonlaw01.NumOne", spec := "numOne", apart := false, narrowed := true }
def NumOneUptoSaid : Prop := numOneUptoRow.holds Try.pinned (OpenSpec.upto numOneSpec)

/-- 'unisonlaw01.NumPuts', WHERE WHAT IT READS IS OF BULK AT MOST 1048576: true; the input reads as it did. -/
def numPutsUptoRow : OpenClaim := { program := "ytppaefjgkocakaa", sum := "fbfe9a95ffe12a6ed8879211ce6a4f52e5e48878345a3e9c90c06f588f6c8fc7", func := "unison/unisonlaw01.NumPuts", spec := "numPuts", apart := false, narrowed := true }
def NumPutsUptoSaid : Prop := numPutsUptoRow.holds Try.pinned (OpenSpec.upto numPutsSpec)

/-- 'unisonlaw01.NumReads', WHERE WHAT IT READS IS OF BULK AT MOST 1048576: true; the input reads as it did. -/
def numReadsUptoRow : OpenClaim := { program := "ytppaefjgkocakaa", sum := "fbfe9a95ffe12a6ed8879211ce6a4f52e5e48878345a3e9c90c06f588f6c8fc7", func := "unison/unisonlaw01.NumReads", spec := "numReads", apart := false, narrowed := true }
def NumReadsUptoSaid : Prop := numReadsUptoRow.holds Try.pinned (OpenSpec.upto numReadsSpec)

/-- 'unisonlaw01.NumNil', WHERE WHAT IT READS IS OF BULK AT MOST 1048576: true; the input reads as it did. -/
def numNilUptoRow : OpenClaim := { program := "ytppaefjgkocakaa", sum := "fbfe9a95ffe12a6ed8879211ce6a4f52e5e48878345a3e9c90c06f588f6c8fc7", func := "unison/unisonlaw01.NumNil", spec := "numNil", apart := false, narrowed := true }
def NumNilUptoSaid : Prop := numNilUptoRow.holds Try.pinned (OpenSpec.upto numNilSpec)

/-- 'unisonlaw01.NumBack', WHERE WHAT IT READS IS OF BULK AT MOST 1048576: true; the input reads as it did. -/
def numBackUptoRow : OpenClaim := { program := "ytppaefjgkocakaa", sum := "fbfe9a95ffe12a6ed8879211ce6a4f52e5e48878345a3e9c90c06f588f6c8fc7", func := "unison/unisonlaw01.NumBack", spec := "numBack", apart := false, narrowed := true }
def NumBackUptoSaid : Prop := numBackUptoRow.holds Try.pinned (OpenSpec.upto numBackSpec)

end Rows
end Go.Proofs.Ytppaefjgkocakaa
