/-
  DERIVED. GIVEN WITH THE SEED: THE CARDS: each row of YtlacppoamekaiaaGreatDoorRows.lean that lists a variable, with what it lists TIED to the program's text (the seventh form; the later family's looks); each row that meets fmt, with fmt's text TOLD by the authors' own Lean function (tested against real Go, not proved from fmt's source: count such statements apart). THE CARD IS WHAT COUNTS. Prove the row's statement (the work); the ties are given (YtlacppoamekaiaaGreatDoorTie.lean); close each card by the builder's one call (the guide's Derived/Test/ToyasCard.lean, 'card_holds'). Laid BY PROGRAM, IN A SANDBOX (cutbox-door.mjs). By AI agents, Wed Nov 11 2026. No macro, syntax, notation, axiom, sorry.
-/
import Derived.Test.YtlacppoamekaiaaGreatDoorRows
import GoSem.ClaimSeven
namespace Go.Proofs.YtlacppoamekaiaaGreatDoor
namespace Rows

/-- THE TIED CARD OF 'unisonlaw24.ProcAlone'. -/
def procAloneCard : Claim7 := { stood := { row := procAloneRow, standIns := [], harness := (true, "6744833c551d74add6dbb19dd1a5dd0a6671190a21a570a9c6f2d29c4f5c02d3"), looks := false }, kinds := [], alts := [], laidByText := true, laidKinds := [.data], laidTests := true, laidLooks := .later }
def ProcAloneCardSaid : Prop := Claim7.holds Tryz.pinned (.plain (OpenSpec.ofChange procAloneSpec)) procAloneCard

/-- THE TIED CARD OF 'unisonlaw24.ProcMays'. -/
def procMaysCard : Claim7 := { stood := { row := procMaysRow, standIns := [], harness := (true, "6744833c551d74add6dbb19dd1a5dd0a6671190a21a570a9c6f2d29c4f5c02d3"), looks := false }, kinds := [], alts := [], laidByText := true, laidKinds := [.data], laidTests := true, laidLooks := .later }
def ProcMaysCardSaid : Prop := Claim7.holds Tryz.pinned (.plain (OpenSpec.ofChange procMaysSpec)) procMaysCard

/-- THE TIED CARD OF 'unisonlaw24.ProcSpeaks'. -/
def procSpeaksCard : Claim7 := { stood := { row := procSpeaksRow, standIns := [], harness := (true, "6744833c551d74add6dbb19dd1a5dd0a6671190a21a570a9c6f2d29c4f5c02d3"), looks := false }, kinds := [], alts := [], laidByText := true, laidKinds := [.data], laidTests := true, laidLooks := .later }
def ProcSpeaksCardSaid : Prop := Claim7.holds Tryz.pinned (.plain (OpenSpec.ofChange procSpeaksSpec)) procSpeaksCard

/-- THE TIED CARD OF 'unisonlaw24.ProcBounds'. -/
def procBoundsCard : Claim7 := { stood := { row := procBoundsRow, standIns := [], harness := (true, "6744833c551d74add6dbb19dd1a5dd0a6671190a21a570a9c6f2d29c4f5c02d3"), looks := false }, kinds := [], alts := [], laidByText := true, laidKinds := [.data], laidTests := true, laidLooks := .later }
def ProcBoundsCardSaid : Prop := Claim7.holds Tryz.pinned (.plain (OpenSpec.ofChange procBoundsSpec)) procBoundsCard

/-- THE TIED CARD OF 'unisonlaw24.ProcRefuses'. -/
def procRefusesCard : Claim7 := { stood := { row := procRefusesRow, standIns := [], harness := (true, "6744833c551d74add6dbb19dd1a5dd0a6671190a21a570a9c6f2d29c4f5c02d3"), looks := false }, kinds := [], alts := [], laidByText := true, laidKinds := [.data], laidTests := true, laidLooks := .later }
def ProcRefusesCardSaid : Prop := Claim7.holds Tryz.pinned (.plain (OpenSpec.ofChange procRefusesSpec)) procRefusesCard

/-- THE TIED CARD OF 'unisonlaw24.ProcNil'. -/
def procNilCard : Claim7 := { stood := { row := procNilRow, standIns := [], harness := (true, "6744833c551d74add6dbb19dd1a5dd0a6671190a21a570a9c6f2d29c4f5c02d3"), looks := false }, kinds := [], alts := [], laidByText := true, laidKinds := [.data], laidTests := true, laidLooks := .later }
def ProcNilCardSaid : Prop := Claim7.holds Tryz.pinned (.plain (OpenSpec.ofChange procNilSpec)) procNilCard

/-- THE TIED CARD OF 'unisonlaw24.ProcSame'. -/
def procSameCard : Claim7 := { stood := { row := procSameRow, standIns := [], harness := (true, "6744833c551d74add6dbb19dd1a5dd0a6671190a21a570a9c6f2d29c4f5c02d3"), looks := false }, kinds := [], alts := [], laidByText := true, laidKinds := [.data], laidTests := true, laidLooks := .later }
def ProcSameCardSaid : Prop := Claim7.holds Tryz.pinned (.plain (OpenSpec.ofChange procSameSpec)) procSameCard

/-- THE SECOND FORM's CARD OF 'unisonlaw24.ProcAlone'. -/
def procAloneUptoCard : Claim7 := { stood := { row := procAloneUptoRow, standIns := [], harness := (true, "6744833c551d74add6dbb19dd1a5dd0a6671190a21a570a9c6f2d29c4f5c02d3"), looks := false }, kinds := [], alts := [], laidByText := true, laidKinds := [.data], laidTests := true, laidLooks := .later }
def ProcAloneUptoCardSaid : Prop := Claim7.holds Tryz.pinned (.plain (OpenSpec.upto procAloneSpec)) procAloneUptoCard

/-- THE SECOND FORM's CARD OF 'unisonlaw24.ProcMays'. -/
def procMaysUptoCard : Claim7 := { stood := { row := procMaysUptoRow, standIns := [], harness := (true, "6744833c551d74add6dbb19dd1a5dd0a6671190a21a570a9c6f2d29c4f5c02d3"), looks := false }, kinds := [], alts := [], laidByText := true, laidKinds := [.data], laidTests := true, laidLooks := .later }
def ProcMaysUptoCardSaid : Prop := Claim7.holds Tryz.pinned (.plain (OpenSpec.upto procMaysSpec)) procMaysUptoCard

/-- THE SECOND FORM's CARD OF 'unisonlaw24.ProcSpeaks'. -/
def procSpeaksUptoCard : Claim7 := { stood := { row := procSpeaksUptoRow, standIns := [], harness := (true, "6744833c551d74add6dbb19dd1a5dd0a6671190a21a570a9c6f2d29c4f5c02d3"), looks := false }, kinds := [], alts := [], laidByText := true, laidKinds := [.data], laidTests := true, laidLooks := .later }
def ProcSpeaksUptoCardSaid : Prop := Claim7.holds Tryz.pinned (.plain (OpenSpec.upto procSpeaksSpec)) procSpeaksUptoCard

/-- THE SECOND FORM's CARD OF 'unisonlaw24.ProcBounds'. -/
def procBoundsUptoCard : Claim7 := { stood := { row := procBoundsUptoRow, standIns := [], harness := (true, "6744833c551d74add6dbb19dd1a5dd0a6671190a21a570a9c6f2d29c4f5c02d3"), looks := false }, kinds := [], alts := [], laidByText := true, laidKinds := [.data], laidTests := true, laidLooks := .later }
def ProcBoundsUptoCardSaid : Prop := Claim7.holds Tryz.pinned (.plain (OpenSpec.upto procBoundsSpec)) procBoundsUptoCard

/-- THE SECOND FORM's CARD OF 'unisonlaw24.ProcRefuses'. -/
def procRefusesUptoCard : Claim7 := { stood := { row := procRefusesUptoRow, standIns := [], harness := (true, "6744833c551d74add6dbb19dd1a5dd0a6671190a21a570a9c6f2d29c4f5c02d3"), looks := false }, kinds := [], alts := [], laidByText := true, laidKinds := [.data], laidTests := true, laidLooks := .later }
def ProcRefusesUptoCardSaid : Prop := Claim7.holds Tryz.pinned (.plain (OpenSpec.upto procRefusesSpec)) procRefusesUptoCard

/-- THE SECOND FORM's CARD OF 'unisonlaw24.ProcNil'. -/
def procNilUptoCard : Claim7 := { stood := { row := procNilUptoRow, standIns := [], harness := (true, "6744833c551d74add6dbb19dd1a5dd0a6671190a21a570a9c6f2d29c4f5c02d3"), looks := false }, kinds := [], alts := [], laidByText := true, laidKinds := [.data], laidTests := true, laidLooks := .later }
def ProcNilUptoCardSaid : Prop := Claim7.holds Tryz.pinned (.plain (OpenSpec.upto procNilSpec)) procNilUptoCard

/-- THE SECOND FORM's CARD OF 'unisonlaw24.ProcSame'. -/
def procSameUptoCard : Claim7 := { stood := { row := procSameUptoRow, standIns := [], harness := (true, "6744833c551d74add6dbb19dd1a5dd0a6671190a21a570a9c6f2d29c4f5c02d3"), looks := false }, kinds := [], alts := [], laidByText := true, laidKinds := [.data], laidTests := true, laidLooks := .later }
def ProcSameUptoCardSaid : Prop := Claim7.holds Tryz.pinned (.plain (OpenSpec.upto procSameSpec)) procSameUptoCard
end Rows
end Go.Proofs.YtlacppoamekaiaaGreatDoor
