/-
  NARROWER THAN 'FOR EVERY INPUT', by the rows' own cells (each row's printed sentence says how): ProcAlone: laid · ProcMays: laid · ProcSpeaks: laid · ProcBounds: laid · ProcRefuses: laid · ProcNil: laid · ProcSame: laid.
  DERIVED. THE GIVEN ROWS OF THIS SEAT. 7 by the template 'for every input the law returns true; each argument reads behind the call as it read before'; 0 by the template 'total and deterministic' (their statements: YtlacppoamekaiaaGreatDoorTotals.lean).
  GIVEN WITH THE SEED: the statements are not yours to turn. If you find one false, say at which input.
  Laid BY PROGRAM, IN A SANDBOX (cutbox-rows.mjs): the forced cells as the released guide's own fill.sh prints them over the translation 1a3d209bd2e06e63… (all of the seat's roots in one cut). By AI agents, Wed Nov 11 2026. No macro, syntax, notation, axiom, sorry.
-/
import Derived.Test.YtlacppoamekaiaaGreatDoorChecked
import GoSem.Claim
import GoSem.ClaimJoined
import GoSem.ClaimMapViews
import Derived.JoinedTies
import Derived.KernelRfl
namespace Go.Proofs.YtlacppoamekaiaaGreatDoor
/- THE CELL 'sum', in the pinned program and in every row, IS THE sha256 OF THE DUMP (.gsa) THAT YtlacppoamekaiaaGreatDoorProg.lean LOADS. Nothing in Lean hashes anything: it is a label: what it is worth is what the hold of that sum in a sandbox is worth. -/
noncomputable def Tryz.pinned : Pinned := { name := "ytlacppoamekaiaagreatdoor", sum := "1a3d209bd2e06e63bc75be7c86de290ea79206de89c673fd3316e5488841bd2d", checked := Tryz.checked }
namespace Rows
def none {H : Type} : Left H := { results := [], args := [] }

/- WHAT THE LISTED PACKAGE-LEVEL VARIABLES READ AS WHEN THE CALL BEGINS. Each datum BY PROGRAM (the guide's laid-datum.mjs) off the statement by which the dump's own 'gosem.cut.vars' lays the variable. In a bare row this is a premise. The card (YtlacppoamekaiaaGreatDoorCards.lean) ties it to the program's text. -/
def laid_math_bits_deBruijn64tab {H : Type} : DataW H := .agg [.lit (.int .u8 0), .lit (.int .u8 1), .lit (.int .u8 56), .lit (.int .u8 2), .lit (.int .u8 57), .lit (.int .u8 49), .lit (.int .u8 28), .lit (.int .u8 3), .lit (.int .u8 61), .lit (.int .u8 58), .lit (.int .u8 42), .lit (.int .u8 50), .lit (.int .u8 38), .lit (.int .u8 29), .lit (.int .u8 17), .lit (.int .u8 4), .lit (.int .u8 62), .lit (.int .u8 47), .lit (.int .u8 59), .lit (.int .u8 36), .lit (.int .u8 45), .lit (.int .u8 43), .lit (.int .u8 51), .lit (.int .u8 22), .lit (.int .u8 53), .lit (.int .u8 39), .lit (.int .u8 33), .lit (.int .u8 30), .lit (.int .u8 24), .lit (.int .u8 18), .lit (.int .u8 12), .lit (.int .u8 5), .lit (.int .u8 63), .lit (.int .u8 55), .lit (.int .u8 48), .lit (.int .u8 27), .lit (.int .u8 60), .lit (.int .u8 41), .lit (.int .u8 37), .lit (.int .u8 16), .lit (.int .u8 46), .lit (.int .u8 35), .lit (.int .u8 44), .lit (.int .u8 21), .lit (.int .u8 52), .lit (.int .u8 32), .lit (.int .u8 23), .lit (.int .u8 11), .lit (.int .u8 54), .lit (.int .u8 26), .lit (.int .u8 40), .lit (.int .u8 15), .lit (.int .u8 34), .lit (.int .u8 20), .lit (.int .u8 31), .lit (.int .u8 10), .lit (.int .u8 25), .lit (.int .u8 14), .lit (.int .u8 19), .lit (.int .u8 9), .lit (.int .u8 13), .lit (.int .u8 8), .lit (.int .u8 7), .lit (.int .u8 6)]

/-- 'unisonlaw24.ProcAlone': WHATEVER THE INPUT: true; the input reads as it did. -/
def procAloneSpec : ChangeSpec := { name := "procAlone", fn := fun _ => fun
  | [d1, d2] => { results := [.lit (.bool true)], args := [d1, d2] }
  | _ => none }
def procAloneRow : OpenClaim := { program := "ytlacppoamekaiaagreatdoor", sum := "1a3d209bd2e06e63bc75be7c86de290ea79206de89c673fd3316e5488841bd2d", func := "unison/unisonlaw24.ProcAlone", spec := "procAlone", unfollowed := true, recurses := true, named := ["math/bits.deBruijn64tab"], plainKeys := false, apart := false, laid := [("math/bits.deBruijn64tab", laid_math_bits_deBruijn64tab)] }
def ProcAloneSaid : Prop := procAloneRow.holds Tryz.pinned (OpenSpec.ofChange procAloneSpec)

/-- ITS FALSE NEIGHBOUR: 'it returns false'. Refute it at one input. -/
def procAloneWrong : ChangeSpec := { name := "procAlone", fn := fun _ => fun
  | [d1, d2] => { results := [.lit (.bool false)], args := [d1, d2] }
  | _ => none }
def ProcAloneWrongFalsely : Prop := procAloneRow.holds Tryz.pinned (OpenSpec.ofChange procAloneWrong)

/-- 'unisonlaw24.ProcMays': WHATEVER THE INPUT: true; the input reads as it did. -/
def procMaysSpec : ChangeSpec := { name := "procMays", fn := fun _ => fun
  | [d1, d2] => { results := [.lit (.bool true)], args := [d1, d2] }
  | _ => none }
def procMaysRow : OpenClaim := { program := "ytlacppoamekaiaagreatdoor", sum := "1a3d209bd2e06e63bc75be7c86de290ea79206de89c673fd3316e5488841bd2d", func := "unison/unisonlaw24.ProcMays", spec := "procMays", unfollowed := true, recurses := true, named := ["math/bits.deBruijn64tab"], plainKeys := false, apart := false, laid := [("math/bits.deBruijn64tab", laid_math_bits_deBruijn64tab)] }
def ProcMaysSaid : Prop := procMaysRow.holds Tryz.pinned (OpenSpec.ofChange procMaysSpec)

/-- ITS FALSE NEIGHBOUR: 'it returns false'. Refute it at one input. -/
def procMaysWrong : ChangeSpec := { name := "procMays", fn := fun _ => fun
  | [d1, d2] => { results := [.lit (.bool false)], args := [d1, d2] }
  | _ => none }
def ProcMaysWrongFalsely : Prop := procMaysRow.holds Tryz.pinned (OpenSpec.ofChange procMaysWrong)

/-- 'unisonlaw24.ProcSpeaks': WHATEVER THE INPUT: true; the input reads as it did. -/
def procSpeaksSpec : ChangeSpec := { name := "procSpeaks", fn := fun _ => fun
  | [d1, d2, d3] => { results := [.lit (.bool true)], args := [d1, d2, d3] }
  | _ => none }
def procSpeaksRow : OpenClaim := { program := "ytlacppoamekaiaagreatdoor", sum := "1a3d209bd2e06e63bc75be7c86de290ea79206de89c673fd3316e5488841bd2d", func := "unison/unisonlaw24.ProcSpeaks", spec := "procSpeaks", unfollowed := true, recurses := true, named := ["math/bits.deBruijn64tab"], plainKeys := false, apart := false, laid := [("math/bits.deBruijn64tab", laid_math_bits_deBruijn64tab)] }
def ProcSpeaksSaid : Prop := procSpeaksRow.holds Tryz.pinned (OpenSpec.ofChange procSpeaksSpec)

/-- ITS FALSE NEIGHBOUR: 'it returns false'. Refute it at one input. -/
def procSpeaksWrong : ChangeSpec := { name := "procSpeaks", fn := fun _ => fun
  | [d1, d2, d3] => { results := [.lit (.bool false)], args := [d1, d2, d3] }
  | _ => none }
def ProcSpeaksWrongFalsely : Prop := procSpeaksRow.holds Tryz.pinned (OpenSpec.ofChange procSpeaksWrong)

/-- 'unisonlaw24.ProcBounds': WHATEVER THE INPUT: true; the input reads as it did. -/
def procBoundsSpec : ChangeSpec := { name := "procBounds", fn := fun _ => fun
  | [d1, d2, d3] => { results := [.lit (.bool true)], args := [d1, d2, d3] }
  | _ => none }
def procBoundsRow : OpenClaim := { program := "ytlacppoamekaiaagreatdoor", sum := "1a3d209bd2e06e63bc75be7c86de290ea79206de89c673fd3316e5488841bd2d", func := "unison/unisonlaw24.ProcBounds", spec := "procBounds", unfollowed := true, recurses := true, named := ["math/bits.deBruijn64tab"], plainKeys := false, apart := false, laid := [("math/bits.deBruijn64tab", laid_math_bits_deBruijn64tab)] }
def ProcBoundsSaid : Prop := procBoundsRow.holds Tryz.pinned (OpenSpec.ofChange procBoundsSpec)

/-- ITS FALSE NEIGHBOUR: 'it returns false'. Refute it at one input. -/
def procBoundsWrong : ChangeSpec := { name := "procBounds", fn := fun _ => fun
  | [d1, d2, d3] => { results := [.lit (.bool false)], args := [d1, d2, d3] }
  | _ => none }
def ProcBoundsWrongFalsely : Prop := procBoundsRow.holds Tryz.pinned (OpenSpec.ofChange procBoundsWrong)

/-- 'unisonlaw24.ProcRefuses': WHATEVER THE INPUT: true; the input reads as it did. -/
def procRefusesSpec : ChangeSpec := { name := "procRefuses", fn := fun _ => fun
  | [d1, d2, d3, d4] => { results := [.lit (.bool true)], args := [d1, d2, d3, d4] }
  | _ => none }
def procRefusesRow : OpenClaim := { program := "ytlacppoamekaiaagreatdoor", sum := "1a3d209bd2e06e63bc75be7c86de290ea79206de89c673fd3316e5488841bd2d", func := "unison/unisonlaw24.ProcRefuses", spec := "procRefuses", unfollowed := true, recurses := true, named := ["math/bits.deBruijn64tab"], plainKeys := false, apart := false, laid := [("math/bits.deBruijn64tab", laid_math_bits_deBruijn64tab)] }
def ProcRefusesSaid : Prop := procRefusesRow.holds Tryz.pinned (OpenSpec.ofChange procRefusesSpec)

/-- ITS FALSE NEIGHBOUR: 'it returns false'. Refute it at one input. -/
def procRefusesWrong : ChangeSpec := { name := "procRefuses", fn := fun _ => fun
  | [d1, d2, d3, d4] => { results := [.lit (.bool false)], args := [d1, d2, d3, d4] }
  | _ => none }
def ProcRefusesWrongFalsely : Prop := procRefusesRow.holds Tryz.pinned (OpenSpec.ofChange procRefusesWrong)

/-- 'unisonlaw24.ProcNil': WHATEVER THE INPUT: true; the input reads as it did. -/
def procNilSpec : ChangeSpec := { name := "procNil", fn := fun _ => fun
  | [d1, d2] => { results := [.lit (.bool true)], args := [d1, d2] }
  | _ => none }
def procNilRow : OpenClaim := { program := "ytlacppoamekaiaagreatdoor", sum := "1a3d209bd2e06e63bc75be7c86de290ea79206de89c673fd3316e5488841bd2d", func := "unison/unisonlaw24.ProcNil", spec := "procNil", unfollowed := true, recurses := true, named := ["math/bits.deBruijn64tab"], plainKeys := false, apart := false, laid := [("math/bits.deBruijn64tab", laid_math_bits_deBruijn64tab)] }
def ProcNilSaid : Prop := procNilRow.holds Tryz.pinned (OpenSpec.ofChange procNilSpec)

/-- ITS FALSE NEIGHBOUR: 'it returns false'. Refute it at one input. -/
def procNilWrong : ChangeSpec := { name := "procNil", fn := fun _ => fun
  | [d1, d2] => { results := [.lit (.bool false)], args := [d1, d2] }
  | _ => none }
def ProcNilWrongFalsely : Prop := procNilRow.holds Tryz.pinned (OpenSpec.ofChange procNilWrong)

/-- 'unisonlaw24.ProcSame': WHATEVER THE INPUT: true; the input reads as it did. -/
def procSameSpec : ChangeSpec := { name := "procSame", fn := fun _ => fun
  | [d1, d2, d3] => { results := [.lit (.bool true)], args := [d1, d2, d3] }
  | _ => none }
def procSameRow : OpenClaim := { program := "ytlacppoamekaiaagreatdoor", sum := "1a3d209bd2e06e63bc75be7c86de290ea79206de89c673fd3316e5488841bd2d", func := "unison/unisonlaw24.ProcSame", spec := "procSame", unfollowed := true, recurses := true, named := ["math/bits.deBruijn64tab"], plainKeys := false, apart := false, laid := [("math/bits.deBruijn64tab", laid_math_bits_deBruijn64tab)] }
def ProcSameSaid : Prop := procSameRow.holds Tryz.pinned (OpenSpec.ofChange procSameSpec)

/-- ITS FALSE NEIGHBOUR: 'it returns false'. Refute it at one input. -/
def procSameWrong : ChangeSpec := { name := "procSame", fn := fun _ => fun
  | [d1, d2, d3] => { results := [.lit (.bool false)], args := [d1, d2, d3] }
  | _ => none }
def ProcSameWrongFalsely : Prop := procSameRow.holds Tryz.pinned (OpenSpec.ofChange procSameWrong)

/- THE SECOND FORM. 'bulk': how many values and letters a reading holds, each counted each time it is reached (what is shared counts as often as it is met; a slice's spare places count too). A statement '..UptoSaid' is the law's where the arguments, and the package variables that the reading takes, are together of bulk at most 1048576: NARROWER than '..Said'. Prove '..Said' where nothing that the law and all that it calls make is longer than what came in: it says more and counts as full. Else prove '..UptoSaid'. A law counts once. -/
mutual
def uptoBulk {H : Type} : DataW H → Nat
  | .lit (.string bytes) => bytes.length + 1
  | .lit _ => 1
  | .nil => 1
  | .ptr d => uptoBulk d + 1
  | .slice elems spare => uptoBulkAll elems + uptoBulkAll spare + 1
  | .agg parts => uptoBulkAll parts + 1
  | .iface _ d => uptoBulk d + 1
  | .map entries => uptoBulkEntries entries + 1
  | .held _ => 1
def uptoBulkAll {H : Type} : List (DataW H) → Nat
  | [] => 0
  | d :: r => uptoBulk d + uptoBulkAll r
def uptoBulkEntries {H : Type} : List (Lit × DataW H) → Nat
  | [] => 0
  | x :: r => uptoBulkEntry x + uptoBulkEntries r
def uptoBulkEntry {H : Type} : Lit × DataW H → Nat
  | (.string bytes, d) => bytes.length + uptoBulk d + 1
  | (_, d) => uptoBulk d + 1
 end
def uptoSmall : (H : Type) → List (DataW H) → Bool := fun _ ds => decide (uptoBulkAll ds ≤ 1048576)
def OpenSpec.upto (s : _root_.Go.ChangeSpec) : _root_.Go.OpenSpec := { _root_.Go.OpenSpec.ofChange s with cond := some uptoSmall }

/-- 'unisonlaw24.ProcAlone', WHERE WHAT IT READS IS OF BULK AT MOST 1048576: true; the input reads as it did. -/
def procAloneUptoRow : OpenClaim := { program := "ytlacppoamekaiaagreatdoor", sum := "1a3d209bd2e06e63bc75be7c86de290ea79206de89c673fd3316e5488841bd2d", func := "unison/unisonlaw24.ProcAlone", spec := "procAlone", unfollowed := true, recurses := true, named := ["math/bits.deBruijn64tab"], plainKeys := false, apart := false, laid := [("math/bits.deBruijn64tab", laid_math_bits_deBruijn64tab)], narrowed := true }
def ProcAloneUptoSaid : Prop := procAloneUptoRow.holds Tryz.pinned (OpenSpec.upto procAloneSpec)

/-- 'unisonlaw24.ProcMays', WHERE WHAT IT READS IS OF BULK AT MOST 1048576: true; the input reads as it did. -/
def procMaysUptoRow : OpenClaim := { program := "ytlacppoamekaiaagreatdoor", sum := "1a3d209bd2e06e63bc75be7c86de290ea79206de89c673fd3316e5488841bd2d", func := "unison/unisonlaw24.ProcMays", spec := "procMays", unfollowed := true, recurses := true, named := ["math/bits.deBruijn64tab"], plainKeys := false, apart := false, laid := [("math/bits.deBruijn64tab", laid_math_bits_deBruijn64tab)], narrowed := true }
def ProcMaysUptoSaid : Prop := procMaysUptoRow.holds Tryz.pinned (OpenSpec.upto procMaysSpec)

/-- 'unisonlaw24.ProcSpeaks', WHERE WHAT IT READS IS OF BULK AT MOST 1048576: true; the input reads as it did. -/
def procSpeaksUptoRow : OpenClaim := { program := "ytlacppoamekaiaagreatdoor", sum := "1a3d209bd2e06e63bc75be7c86de290ea79206de89c673fd3316e5488841bd2d", func := "unison/unisonlaw24.ProcSpeaks", spec := "procSpeaks", unfollowed := true, recurses := true, named := ["math/bits.deBruijn64tab"], plainKeys := false, apart := false, laid := [("math/bits.deBruijn64tab", laid_math_bits_deBruijn64tab)], narrowed := true }
def ProcSpeaksUptoSaid : Prop := procSpeaksUptoRow.holds Tryz.pinned (OpenSpec.upto procSpeaksSpec)

/-- 'unisonlaw24.ProcBounds', WHERE WHAT IT READS IS OF BULK AT MOST 1048576: true; the input reads as it did. -/
def procBoundsUptoRow : OpenClaim := { program := "ytlacppoamekaiaagreatdoor", sum := "1a3d209bd2e06e63bc75be7c86de290ea79206de89c673fd3316e5488841bd2d", func := "unison/unisonlaw24.ProcBounds", spec := "procBounds", unfollowed := true, recurses := true, named := ["math/bits.deBruijn64tab"], plainKeys := false, apart := false, laid := [("math/bits.deBruijn64tab", laid_math_bits_deBruijn64tab)], narrowed := true }
def ProcBoundsUptoSaid : Prop := procBoundsUptoRow.holds Tryz.pinned (OpenSpec.upto procBoundsSpec)

/-- 'unisonlaw24.ProcRefuses', WHERE WHAT IT READS IS OF BULK AT MOST 1048576: true; the input reads as it did. -/
def procRefusesUptoRow : OpenClaim := { program := "ytlacppoamekaiaagreatdoor", sum := "1a3d209bd2e06e63bc75be7c86de290ea79206de89c673fd3316e5488841bd2d", func := "unison/unisonlaw24.ProcRefuses", spec := "procRefuses", unfollowed := true, recurses := true, named := ["math/bits.deBruijn64tab"], plainKeys := false, apart := false, laid := [("math/bits.deBruijn64tab", laid_math_bits_deBruijn64tab)], narrowed := true }
def ProcRefusesUptoSaid : Prop := procRefusesUptoRow.holds Tryz.pinned (OpenSpec.upto procRefusesSpec)

/-- 'unisonlaw24.ProcNil', WHERE WHAT IT READS IS OF BULK AT MOST 1048576: true; the input reads as it did. -/
def procNilUptoRow : OpenClaim := { program := "ytlacppoamekaiaagreatdoor", sum := "1a3d209bd2e06e63bc75be7c86de290ea79206de89c673fd3316e5488841bd2d", func := "unison/unisonlaw24.ProcNil", spec := "procNil", unfollowed := true, recurses := true, named := ["math/bits.deBruijn64tab"], plainKeys := false, apart := false, laid := [("math/bits.deBruijn64tab", laid_math_bits_deBruijn64tab)], narrowed := true }
def ProcNilUptoSaid : Prop := procNilUptoRow.holds Tryz.pinned (OpenSpec.upto procNilSpec)

/-- 'unisonlaw24.ProcSame', WHERE WHAT IT READS IS OF BULK AT MOST 1048576: true; the input reads as it did. -/
def procSameUptoRow : OpenClaim := { program := "ytlacppoamekaiaagreatdoor", sum := "1a3d209bd2e06e63bc75be7c86de290ea79206de89c673fd3316e5488841bd2d", func := "unison/unisonlaw24.ProcSame", spec := "procSame", unfollowed := true, recurses := true, named := ["math/bits.deBruijn64tab"], plainKeys := false, apart := false, laid := [("math/bits.deBruijn64tab", laid_math_bits_deBruijn64tab)], narrowed := true }
def ProcSameUptoSaid : Prop := procSameUptoRow.holds Tryz.pinned (OpenSpec.upto procSameSpec)

end Rows
end Go.Proofs.YtlacppoamekaiaaGreatDoor
