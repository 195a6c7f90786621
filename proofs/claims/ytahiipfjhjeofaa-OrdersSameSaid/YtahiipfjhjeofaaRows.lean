/-
  No cell of these rows narrows 'for every input' (looked for: loops, veiled, ifaces, maps, wideKeys, modest, calm, conditions, laid).
  DERIVED. THE GIVEN ROWS OF THIS SEAT. 5 by the template 'for every input the law returns true; each argument reads behind the call as it read before'; 0 by the template 'total and deterministic' (their statements: YtahiipfjhjeofaaTotals.lean).
  GIVEN WITH THE SEED: the statements are not yours to turn. If you find one false, say at which input.
  Laid BY PROGRAM, IN A SANDBOX (cutbox-rows.mjs): the forced cells as the released guide's own fill.sh prints them over the translation 6f4a0cba569bfe28… (all of the seat's roots in one cut). By AI agents, Wed Nov 11 2026. No macro, syntax, notation, axiom, sorry.
-/
import Derived.Test.YtahiipfjhjeofaaChecked
import GoSem.Claim
import GoSem.ClaimJoined
import GoSem.ClaimMapViews
import Derived.JoinedTies
import Derived.KernelRfl
namespace Go.Proofs.Ytahiipfjhjeofaa
/- THE CELL 'sum', in the pinned program and in every row, IS THE sha256 OF THE DUMP (.gsa) THAT YtahiipfjhjeofaaProg.lean LOADS. Nothing in Lean hashes anything: it is a label: what it is worth is what the hold of that sum in a sandbox is worth. -/
noncomputable def Try.pinned : Pinned := { name := "ytahiipfjhjeofaa", sum := "6f4a0cba569bfe28e29720031749cdd5470691b21aab850a895bb464597d978e", checked := Try.checked }
namespace Rows
def none {H : Type} : Left H := { results := [], args := [] }

/-- 'unisonlaw23.OrdersKeeps': WHATEVER THE INPUT: true; the input reads as it did. -/
def ordersKeepsSpec : ChangeSpec := { name := "ordersKeeps", fn := fun _ => fun
  | [d1, d2, d3] => { results := [.lit (.bool true)], args := [d1, d2, d3] }
  | _ => none }
def ordersKeepsRow : OpenClaim := { program := "ytahiipfjhjeofaa", sum := "6f4a0cba569bfe28e29720031749cdd5470691b21aab850a895bb464597d978e", func := "unison/unisonlaw23.OrdersKeeps", spec := "ordersKeeps", unfollowed := true, recurses := true, apart := false }
def OrdersKeepsSaid : Prop := ordersKeepsRow.holds Try.pinned (OpenSpec.ofChange ordersKeepsSpec)

/-- ITS FALSE NEIGHBOUR: 'it returns false'. Refute it at one input. -/
def ordersKeepsWrong : ChangeSpec := { name := "ordersKeeps", fn := fun _ => fun
  | [d1, d2, d3] => { results := [.lit (.bool false)], args := [d1, d2, d3] }
  | _ => none }
def OrdersKeepsWrongFalsely : Prop := ordersKeepsRow.holds Try.pinned (OpenSpec.ofChange ordersKeepsWrong)

/-- 'unisonlaw23.OrdersSame': WHATEVER THE INPUT: true; the input reads as it did. -/
def ordersSameSpec : ChangeSpec := { name := "ordersSame", fn := fun _ => fun
  | [d1, d2, d3, d4, d5] => { results := [.lit (.bool true)], args := [d1, d2, d3, d4, d5] }
  | _ => none }
def ordersSameRow : OpenClaim := { program := "ytahiipfjhjeofaa", sum := "6f4a0cba569bfe28e29720031749cdd5470691b21aab850a895bb464597d978e", func := "unison/unisonlaw23.OrdersSame", spec := "ordersSame", unfollowed := true, recurses := true, apart := false }
def OrdersSameSaid : Prop := ordersSameRow.holds Try.pinned (OpenSpec.ofChange ordersSameSpec)

/-- ITS FALSE NEIGHBOUR: 'it returns false'. Refute it at one input. -/
def ordersSameWrong : ChangeSpec := { name := "ordersSame", fn := fun _ => fun
  | [d1, d2, d3, d4, d5] => { results := [.lit (.bool false)], args := [d1, d2, d3, d4, d5] }
  | _ => none }
def OrdersSameWrongFalsely : Prop := ordersSameRow.holds Try.pinned (OpenSpec.ofChange ordersSameWrong)

/-- 'unisonlaw23.OrdersFront': WHATEVER THE INPUT: true; the input reads as it did. -/
def ordersFrontSpec : ChangeSpec := { name := "ordersFront", fn := fun _ => fun
  | [d1, d2] => { results := [.lit (.bool true)], args := [d1, d2] }
  | _ => none }
def ordersFrontRow : OpenClaim := { program := "ytahiipfjhjeofaa", sum := "6f4a0cba569bfe28e29720031749cdd5470691b21aab850a895bb464597d978e", func := "unison/unisonlaw23.OrdersFront", spec := "ordersFront", unfollowed := true, recurses := true, apart := false }
def OrdersFrontSaid : Prop := ordersFrontRow.holds Try.pinned (OpenSpec.ofChange ordersFrontSpec)

/-- ITS FALSE NEIGHBOUR: 'it returns false'. Refute it at one input. -/
def ordersFrontWrong : ChangeSpec := { name := "ordersFront", fn := fun _ => fun
  | [d1, d2] => { results := [.lit (.bool false)], args := [d1, d2] }
  | _ => none }
def OrdersFrontWrongFalsely : Prop := ordersFrontRow.holds Try.pinned (OpenSpec.ofChange ordersFrontWrong)

/-- 'unisonlaw23.OrdersPlays': WHATEVER THE INPUT: true; the input reads as it did. -/
def ordersPlaysSpec : ChangeSpec := { name := "ordersPlays", fn := fun _ => fun
  | [d1, d2, d3] => { results := [.lit (.bool true)], args := [d1, d2, d3] }
  | _ => none }
def ordersPlaysRow : OpenClaim := { program := "ytahiipfjhjeofaa", sum := "6f4a0cba569bfe28e29720031749cdd5470691b21aab850a895bb464597d978e", func := "unison/unisonlaw23.OrdersPlays", spec := "ordersPlays", unfollowed := true, recurses := true, apart := false }
def OrdersPlaysSaid : Prop := ordersPlaysRow.holds Try.pinned (OpenSpec.ofChange ordersPlaysSpec)

/-- ITS FALSE NEIGHBOUR: 'it returns false'. Refute it at one input. -/
def ordersPlaysWrong : ChangeSpec := { name := "ordersPlays", fn := fun _ => fun
  | [d1, d2, d3] => { results := [.lit (.bool false)], args := [d1, d2, d3] }
  | _ => none }
def OrdersPlaysWrongFalsely : Prop := ordersPlaysRow.holds Try.pinned (OpenSpec.ofChange ordersPlaysWrong)

/-- 'unisonlaw23.OrdersNil': WHATEVER THE INPUT: true; the input reads as it did. -/
def ordersNilSpec : ChangeSpec := { name := "ordersNil", fn := fun _ => fun
  | [d] => { results := [.lit (.bool true)], args := [d] }
  | _ => none }
def ordersNilRow : OpenClaim := { program := "ytahiipfjhjeofaa", sum := "6f4a0cba569bfe28e29720031749cdd5470691b21aab850a895bb464597d978e", func := "unison/unisonlaw23.OrdersNil", spec := "ordersNil", unfollowed := true, recurses := true, apart := false }
def OrdersNilSaid : Prop := ordersNilRow.holds Try.pinned (OpenSpec.ofChange ordersNilSpec)

/-- ITS FALSE NEIGHBOUR: 'it returns false'. Refute it at one input. -/
def ordersNilWrong : ChangeSpec := { name := "ordersNil", fn := fun _ => fun
  | [d] => { results := [.lit (.bool false)], args := [d] }
  | _ => none }
def OrdersNilWrongFalsely : Prop := ordersNilRow.holds Try.pinned (OpenSpec.ofChange ordersNilWrong)

/- THE SECOND FORM. 'bulk': how many values and letters a reading holds, each counted each time it is reached (what is shared counts as often as it is met; a slice's spare places count too). A statement '..UptoSaid' is the law's where the arguments, and the package variables that the reading takes, are together of bulk at most 1048576: NARROWER than '..Said'. Prove '..Said' where nothing that the law and all that it calls make is longer than what came in: it says more and counts as full. Else prove '..UptoSaid'. A law counts once. -/
mutual
def uptoBulk {H : Type} : DataW H → Nat
  | .lit (.string bytes) => bytes.length + 1
  | .lit _ => 1
  | .nil => 1
  | .ptr d => uptoBulk d + 1
  | .slice elems spare => uptoBulkAll elems + uptoBulkAll spare + 1
  | .agg parts => uptoBulkAll parts + 1
  | .iface _ d => uptoBulk d + 1
  | .map entries => uptoBulkEntries entries + 1
  | .held _ => 1
def uptoBulkAll {H : Type} : List (DataW H) → Nat
  | [] => 0
  | d :: r => uptoBulk d + uptoBulkAll r
def uptoBulkEntries {H : Type} : List (Lit × DataW H) → Nat
  | [] => 0
  | x :: r => uptoBulkEntry x + uptoBulkEntries r
def uptoBulkEntry {H : Type} : Lit × DataW H → Nat
  | (.string bytes, d) => bytes.length + uptoBulk d + 1
  | (_, d) => uptoBulk d + 1
 end
def uptoSmall : (H : Type) → List (DataW H) → Bool := fun _ ds => decide (uptoBulkAll ds ≤ 1048576)
def OpenSpec.upto (s : _root_.Go.ChangeSpec) : _root_.Go.OpenSpec := { _root_.Go.OpenSpec.ofChange s with cond := some uptoSmall }

/-- 'unisonlaw23.OrdersKeeps', WHERE WHAT IT READS IS OF BULK AT MOST 1048576: true; the input reads as it did. -/
def ordersKeepsUptoRow : OpenClaim := { program := "ytahiipfjhjeofaa", sum := "6f4a0cba569bfe28e29720031749cdd5470691b21aab850a895bb464597d978e", func := "unison/unisonlaw23.OrdersKeeps", spec := "ordersKeeps", unfollowed := true, recurses := true, apart := false, narrowed := true }
def OrdersKeepsUptoSaid : Prop := ordersKeepsUptoRow.holds Try.pinned (OpenSpec.upto ordersKeepsSpec)

/-- 'unisonlaw23.OrdersSame', WHERE WHAT IT READS IS OF BULK AT MOST 1048576: true; the input reads as it did. -/
def ordersSameUptoRow : OpenClaim := { program := "ytahiipfjhjeofaa", sum := "6f4a0cba569bfe28e29720031749cdd5470691b21aab850a895bb464597d978e", func := "unison/unisonlaw23.OrdersSame", spec := "ordersSame", unfollowed := true, recurses := true, apart := false, narrowed := true }
def OrdersSameUptoSaid : Prop := ordersSameUptoRow.holds Try.pinned (OpenSpec.upto ordersSameSpec)

/-- 'unisonlaw23.OrdersFront', WHERE WHAT IT READS IS OF BULK AT MOST 1048576: true; the input reads as it did. -/
def ordersFrontUptoRow : OpenClaim := { program := "ytahiipfjhjeofaa", sum := "6f4a0cba569bfe28e29720031749cdd5470691b21aab850a895bb464597d978e", func := "unison/unisonlaw23.OrdersFront", spec := "ordersFront", unfollowed := true, recurses := true, apart := false, narrowed := true }
def OrdersFrontUptoSaid : Prop := ordersFrontUptoRow.holds Try.pinned (OpenSpec.upto ordersFrontSpec)

/-- 'unisonlaw23.OrdersPlays', WHERE WHAT IT READS IS OF BULK AT MOST 1048576: true; the input reads as it did. -/
def ordersPlaysUptoRow : OpenClaim := { program := "ytahiipfjhjeofaa", sum := "6f4a0cba569bfe28e29720031749cdd5470691b21aab850a895bb464597d978e", func := "unison/unisonlaw23.OrdersPlays", spec := "ordersPlays", unfollowed := true, recurses := true, apart := false, narrowed := true }
def OrdersPlaysUptoSaid : Prop := ordersPlaysUptoRow.holds Try.pinned (OpenSpec.upto ordersPlaysSpec)

/-- 'unisonlaw23.OrdersNil', WHERE WHAT IT READS IS OF BULK AT MOST 1048576: true; the input reads as it did. -/
def ordersNilUptoRow : OpenClaim := { program := "ytahiipfjhjeofaa", sum := "6f4a0cba569bfe28e29720031749cdd5470691b21aab850a895bb464597d978e", func := "unison/unisonlaw23.OrdersNil", spec := "ordersNil", unfollowed := true, recurses := true, apart := false, narrowed := true }
def OrdersNilUptoSaid : Prop := ordersNilUptoRow.holds Try.pinned (OpenSpec.upto ordersNilSpec)

end Rows
end Go.Proofs.Ytahiipfjhjeofaa
