/-
  No cell of these rows narrows 'for every input' (looked for: loops, veiled, ifaces, maps, wideKeys, modest, calm, conditions, laid).
  DERIVED. THE GIVEN ROWS OF THIS SEAT. 5 by the template 'for every input the law returns true; each argument reads behind the call as it read before'; 0 by the template 'total and deterministic' (their statements: YtmaidlndikcgkaaTotals.lean).
  GIVEN WITH THE SEED: the statements are not yours to turn. If you find one false, say at which input.
  Laid BY PROGRAM, IN A SANDBOX (cutbox-rows.mjs): the forced cells as the released guide's own fill.sh prints them over the translation 3bf6057e4a27ff47… (all of the seat's roots in one cut). By AI agents, Wed Nov 11 2026. No macro, syntax, notation, axiom, sorry.
-/
import Derived.Test.YtmaidlndikcgkaaChecked
import GoSem.Claim
import GoSem.ClaimJoined
import GoSem.ClaimMapViews
import Derived.JoinedTies
import Derived.KernelRfl
namespace Go.Proofs.Ytmaidlndikcgkaa
/- THE CELL 'sum', in the pinned program and in every row, IS THE sha256 OF THE DUMP (.gsa) THAT YtmaidlndikcgkaaProg.lean LOADS. Nothing in Lean hashes anything: it is a label: what it is worth is what the hold of that sum in a sandbox is worth. -/
noncomputable def Try.pinned : Pinned := { name := "ytmaidlndikcgkaa", sum := "3bf6057e4a27ff47dc6527fd91def0949ebf0b71bf44594db2ab2b54f3ad19e8", checked := Try.checked }
namespace Rows
def none {H : Type} : Left H := { results := [], args := [] }

/-- 'unisonlaw22.InstAgrees': WHATEVER THE INPUT: true; the input reads as it did. -/
def instAgreesSpec : ChangeSpec := { name := "instAgrees", fn := fun _ => fun
  | [d1, d2, d3] => { results := [.lit (.bool true)], args := [d1, d2, d3] }
  | _ => none }
def instAgreesRow : OpenClaim := { program := "ytmaidlndikcgkaa", sum := "3bf6057e4a27ff47dc6527fd91def0949ebf0b71bf44594db2ab2b54f3ad19e8", func := "unison/unisonlaw22.InstAgrees", spec := "instAgrees", unfollowed := true, recurses := true, apart := false }
def InstAgreesSaid : Prop := instAgreesRow.holds Try.pinned (OpenSpec.ofChange instAgreesSpec)

/-- ITS FALSE NEIGHBOUR: 'it returns false'. Refute it at one input. -/
def instAgreesWrong : ChangeSpec := { name := "instAgrees", fn := fun _ => fun
  | [d1, d2, d3] => { results := [.lit (.bool false)], args := [d1, d2, d3] }
  | _ => none }
def InstAgreesWrongFalsely : Prop := instAgreesRow.holds Try.pinned (OpenSpec.ofChange instAgreesWrong)

/-- 'unisonlaw22.InstLocks': WHATEVER THE INPUT: true; the input reads as it did. -/
def instLocksSpec : ChangeSpec := { name := "instLocks", fn := fun _ => fun
  | [d1, d2, d3] => { results := [.lit (.bool true)], args := [d1, d2, d3] }
  | _ => none }
def instLocksRow : OpenClaim := { program := "ytmaidlndikcgkaa", sum := "3bf6057e4a27ff47dc6527fd91def0949ebf0b71bf44594db2ab2b54f3ad19e8", func := "unison/unisonlaw22.InstLocks", spec := "instLocks", unfollowed := true, recurses := true, apart := false }
def InstLocksSaid : Prop := instLocksRow.holds Try.pinned (OpenSpec.ofChange instLocksSpec)

/-- ITS FALSE NEIGHBOUR: 'it returns false'. Refute it at one input. -/
def instLocksWrong : ChangeSpec := { name := "instLocks", fn := fun _ => fun
  | [d1, d2, d3] => { results := [.lit (.bool false)], args := [d1, d2, d3] }
  | _ => none }
def InstLocksWrongFalsely : Prop := instLocksRow.holds Try.pinned (OpenSpec.ofChange instLocksWrong)

/-- 'unisonlaw22.InstEnds': WHATEVER THE INPUT: true; the input reads as it did. -/
def instEndsSpec : ChangeSpec := { name := "instEnds", fn := fun _ => fun
  | [d1, d2, d3] => { results := [.lit (.bool true)], args := [d1, d2, d3] }
  | _ => none }
def instEndsRow : OpenClaim := { program := "ytmaidlndikcgkaa", sum := "3bf6057e4a27ff47dc6527fd91def0949ebf0b71bf44594db2ab2b54f3ad19e8", func := "unison/unisonlaw22.InstEnds", spec := "instEnds", unfollowed := true, recurses := true, apart := false }
def InstEndsSaid : Prop := instEndsRow.holds Try.pinned (OpenSpec.ofChange instEndsSpec)

/-- ITS FALSE NEIGHBOUR: 'it returns false'. Refute it at one input. -/
def instEndsWrong : ChangeSpec := { name := "instEnds", fn := fun _ => fun
  | [d1, d2, d3] => { results := [.lit (.bool false)], args := [d1, d2, d3] }
  | _ => none }
def InstEndsWrongFalsely : Prop := instEndsRow.holds Try.pinned (OpenSpec.ofChange instEndsWrong)

/-- 'unisonlaw22.InstPlays': WHATEVER THE INPUT: true; the input reads as it did. -/
def instPlaysSpec : ChangeSpec := { name := "instPlays", fn := fun _ => fun
  | [d1, d2] => { results := [.lit (.bool true)], args := [d1, d2] }
  | _ => none }
def instPlaysRow : OpenClaim := { program := "ytmaidlndikcgkaa", sum := "3bf6057e4a27ff47dc6527fd91def0949ebf0b71bf44594db2ab2b54f3ad19e8", func := "unison/unisonlaw22.InstPlays", spec := "instPlays", unfollowed := true, recurses := true, apart := false }
def InstPlaysSaid : Prop := instPlaysRow.holds Try.pinned (OpenSpec.ofChange instPlaysSpec)

/-- ITS FALSE NEIGHBOUR: 'it returns false'. Refute it at one input. -/
def instPlaysWrong : ChangeSpec := { name := "instPlays", fn := fun _ => fun
  | [d1, d2] => { results := [.lit (.bool false)], args := [d1, d2] }
  | _ => none }
def InstPlaysWrongFalsely : Prop := instPlaysRow.holds Try.pinned (OpenSpec.ofChange instPlaysWrong)

/-- 'unisonlaw22.InstNone': WHATEVER THE INPUT: true; the input reads as it did. -/
def instNoneSpec : ChangeSpec := { name := "instNone", fn := fun _ => fun
  | [d] => { results := [.lit (.bool true)], args := [d] }
  | _ => none }
def instNoneRow : OpenClaim := { program := "ytmaidlndikcgkaa", sum := "3bf6057e4a27ff47dc6527fd91def0949ebf0b71bf44594db2ab2b54f3ad19e8", func := "unison/unisonlaw22.InstNone", spec := "instNone", unfollowed := true, recurses := true, apart := false }
def InstNoneSaid : Prop := instNoneRow.holds Try.pinned (OpenSpec.ofChange instNoneSpec)

/-- ITS FALSE NEIGHBOUR: 'it returns false'. Refute it at one input. -/
def instNoneWrong : ChangeSpec := { name := "instNone", fn := fun _ => fun
  | [d] => { results := [.lit (.bool false)], args := [d] }
  | _ => none }
def InstNoneWrongFalsely : Prop := instNoneRow.holds Try.pinned (OpenSpec.ofChange instNoneWrong)

/- THE SECOND FORM. 'bulk': how many values and letters a reading holds, each counted each time it is reached (what is shared counts as often as it is met; a slice's spare places count too). A statement '..UptoSaid' is the law's where the arguments, and the package variables that the reading takes, are together of bulk at most 1048576: NARROWER than '..Said'. Prove '..Said' where nothing that the law and all that it calls make is longer than what came in: it says more and counts as full. Else prove '..UptoSaid'. A law counts once. -/
mutual
def uptoBulk {H : Type} : DataW H → Nat
  | .lit (.string bytes) => bytes.length + 1
  | .lit _ => 1
  | .nil => 1
  | .ptr d => uptoBulk d + 1
  | .slice elems spare => uptoBulkAll elems + uptoBulkAll spare + 1
  | .agg parts => uptoBulkAll parts + 1
  | .iface _ d => uptoBulk d + 1
  | .map entries => uptoBulkEntries entries + 1
  | .held _ => 1
def uptoBulkAll {H : Type} : List (DataW H) → Nat
  | [] => 0
  | d :: r => uptoBulk d + uptoBulkAll r
def uptoBulkEntries {H : Type} : List (Lit × DataW H) → Nat
  | [] => 0
  | x :: r => uptoBulkEntry x + uptoBulkEntries r
def uptoBulkEntry {H : Type} : Lit × DataW H → Nat
  | (.string bytes, d) => bytes.length + uptoBulk d + 1
  | (_, d) => uptoBulk d + 1
 end
def uptoSmall : (H : Type) → List (DataW H) → Bool := fun _ ds => decide (uptoBulkAll ds ≤ 1048576)
def OpenSpec.upto (s : _root_.Go.ChangeSpec) : _root_.Go.OpenSpec := { _root_.Go.OpenSpec.ofChange s with cond := some uptoSmall }

/-- 'unisonlaw22.InstAgrees', WHERE WHAT IT READS IS OF BULK AT MOST 1048576: true; the input reads as it did. -/
def instAgreesUptoRow : OpenClaim := { program := "ytmaidlndikcgkaa", sum := "3bf6057e4a27ff47dc6527fd91def0949ebf0b71bf44594db2ab2b54f3ad19e8", func := "unison/unisonlaw22.InstAgrees", spec := "instAgrees", unfollowed := true, recurses := true, apart := false, narrowed := true }
def InstAgreesUptoSaid : Prop := instAgreesUptoRow.holds Try.pinned (OpenSpec.upto instAgreesSpec)

/-- 'unisonlaw22.InstLocks', WHERE WHAT IT READS IS OF BULK AT MOST 1048576: true; the input reads as it did. -/
def instLocksUptoRow : OpenClaim := { program := "ytmaidlndikcgkaa", sum := "3bf6057e4a27ff47dc6527fd91def0949ebf0b71bf44594db2ab2b54f3ad19e8", func := "unison/unisonlaw22.InstLocks", spec := "instLocks", unfollowed := true, recurses := true, apart := false, narrowed := true }
def InstLocksUptoSaid : Prop := instLocksUptoRow.holds Try.pinned (OpenSpec.upto instLocksSpec)

/-- 'unisonlaw22.InstEnds', WHERE WHAT IT READS IS OF BULK AT MOST 1048576: true; the input reads as it did. -/
def instEndsUptoRow : OpenClaim := { program := "ytmaidlndikcgkaa", sum := "3bf6057e4a27ff47dc6527fd91def0949ebf0b71bf44594db2ab2b54f3ad19e8", func := "unison/unisonlaw22.InstEnds", spec := "instEnds", unfollowed := true, recurses := true, apart := false, narrowed := true }
def InstEndsUptoSaid : Prop := instEndsUptoRow.holds Try.pinned (OpenSpec.upto instEndsSpec)

/-- 'unisonlaw22.InstPlays', WHERE WHAT IT READS IS OF BULK AT MOST 1048576: true; the input reads as it did. -/
def instPlaysUptoRow : OpenClaim := { program := "ytmaidlndikcgkaa", sum := "3bf6057e4a27ff47dc6527fd91def0949ebf0b71bf44594db2ab2b54f3ad19e8", func := "unison/unisonlaw22.InstPlays", spec := "instPlays", unfollowed := true, recurses := true, apart := false, narrowed := true }
def InstPlaysUptoSaid : Prop := instPlaysUptoRow.holds Try.pinned (OpenSpec.upto instPlaysSpec)

/-- 'unisonlaw22.InstNone', WHERE WHAT IT READS IS OF BULK AT MOST 1048576: true; the input reads as it did. -/
def instNoneUptoRow : OpenClaim := { program := "ytmaidlndikcgkaa", sum := "3bf6057e4a27ff47dc6527fd91def0949ebf0b71bf44594db2ab2b54f3ad19e8", func := "unison/unisonlaw22.InstNone", spec := "instNone", unfollowed := true, recurses := true, apart := false, narrowed := true }
def InstNoneUptoSaid : Prop := instNoneUptoRow.holds Try.pinned (OpenSpec.upto instNoneSpec)

end Rows
end Go.Proofs.Ytmaidlndikcgkaa
