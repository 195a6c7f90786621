/-
  DERIVED. GIVEN WITH THE SEED: THE CARDS: each row of YtjbgdpfkmcibbaaGreatDoorRows.lean that lists a variable, with what it lists TIED to the program's text (the seventh form; the later family's looks); each row that meets fmt, with fmt's text TOLD by the authors' own Lean function (tested against real Go, not proved from fmt's source: count such statements apart). THE CARD IS WHAT COUNTS. Prove the row's statement (the work); the ties are given (YtjbgdpfkmcibbaaGreatDoorTie.lean); close each card by the builder's one call (the guide's Derived/Test/ToyasCard.lean, 'card_holds'). Laid BY PROGRAM, IN A SANDBOX (cutbox-door.mjs). By AI agents, Wed Nov 11 2026. No macro, syntax, notation, axiom, sorry.
-/
import Derived.Test.YtjbgdpfkmcibbaaGreatDoorRows
import GoSem.ClaimSeven
namespace Go.Proofs.YtjbgdpfkmcibbaaGreatDoor
namespace Rows

/-- THE TIED CARD OF 'unisonlaw29.WitnessMakes'. -/
def witnessMakesCard : Claim7 := { stood := { row := witnessMakesRow, standIns := [], harness := (true, "a1ae22a4e7d49890f9487f9cea2e61f01e10404aa9793fc3fbc61536f0cda7a3"), looks := false }, kinds := [], alts := [], laidByText := true, laidKinds := [.data], laidTests := true, laidLooks := .later }
def WitnessMakesCardSaid : Prop := Claim7.holds Tryz.pinned (.plain (OpenSpec.ofChange witnessMakesSpec)) witnessMakesCard

/-- THE TIED CARD OF 'unisonlaw29.WitnessLong'. -/
def witnessLongCard : Claim7 := { stood := { row := witnessLongRow, standIns := [], harness := (true, "a1ae22a4e7d49890f9487f9cea2e61f01e10404aa9793fc3fbc61536f0cda7a3"), looks := false }, kinds := [], alts := [], laidByText := true, laidKinds := [.data], laidTests := true, laidLooks := .later }
def WitnessLongCardSaid : Prop := Claim7.holds Tryz.pinned (.plain (OpenSpec.ofChange witnessLongSpec)) witnessLongCard

/-- THE TIED CARD OF 'unisonlaw29.WitnessBounds'. -/
def witnessBoundsCard : Claim7 := { stood := { row := witnessBoundsRow, standIns := [], harness := (true, "a1ae22a4e7d49890f9487f9cea2e61f01e10404aa9793fc3fbc61536f0cda7a3"), looks := false }, kinds := [], alts := [], laidByText := true, laidKinds := [.data], laidTests := true, laidLooks := .later }
def WitnessBoundsCardSaid : Prop := Claim7.holds Tryz.pinned (.plain (OpenSpec.ofChange witnessBoundsSpec)) witnessBoundsCard

/-- THE TIED CARD OF 'unisonlaw29.WitnessSettles'. -/
def witnessSettlesCard : Claim7 := { stood := { row := witnessSettlesRow, standIns := [], harness := (true, "a1ae22a4e7d49890f9487f9cea2e61f01e10404aa9793fc3fbc61536f0cda7a3"), looks := false }, kinds := [], alts := [], laidByText := true, laidKinds := [.data], laidTests := true, laidLooks := .later }
def WitnessSettlesCardSaid : Prop := Claim7.holds Tryz.pinned (.plain (OpenSpec.ofChange witnessSettlesSpec)) witnessSettlesCard

/-- THE SECOND FORM's CARD OF 'unisonlaw29.WitnessMakes'. -/
def witnessMakesUptoCard : Claim7 := { stood := { row := witnessMakesUptoRow, standIns := [], harness := (true, "a1ae22a4e7d49890f9487f9cea2e61f01e10404aa9793fc3fbc61536f0cda7a3"), looks := false }, kinds := [], alts := [], laidByText := true, laidKinds := [.data], laidTests := true, laidLooks := .later }
def WitnessMakesUptoCardSaid : Prop := Claim7.holds Tryz.pinned (.plain (OpenSpec.upto witnessMakesSpec)) witnessMakesUptoCard

/-- THE SECOND FORM's CARD OF 'unisonlaw29.WitnessLong'. -/
def witnessLongUptoCard : Claim7 := { stood := { row := witnessLongUptoRow, standIns := [], harness := (true, "a1ae22a4e7d49890f9487f9cea2e61f01e10404aa9793fc3fbc61536f0cda7a3"), looks := false }, kinds := [], alts := [], laidByText := true, laidKinds := [.data], laidTests := true, laidLooks := .later }
def WitnessLongUptoCardSaid : Prop := Claim7.holds Tryz.pinned (.plain (OpenSpec.upto witnessLongSpec)) witnessLongUptoCard

/-- THE SECOND FORM's CARD OF 'unisonlaw29.WitnessBounds'. -/
def witnessBoundsUptoCard : Claim7 := { stood := { row := witnessBoundsUptoRow, standIns := [], harness := (true, "a1ae22a4e7d49890f9487f9cea2e61f01e10404aa9793fc3fbc61536f0cda7a3"), looks := false }, kinds := [], alts := [], laidByText := true, laidKinds := [.data], laidTests := true, laidLooks := .later }
def WitnessBoundsUptoCardSaid : Prop := Claim7.holds Tryz.pinned (.plain (OpenSpec.upto witnessBoundsSpec)) witnessBoundsUptoCard

/-- THE SECOND FORM's CARD OF 'unisonlaw29.WitnessSettles'. -/
def witnessSettlesUptoCard : Claim7 := { stood := { row := witnessSettlesUptoRow, standIns := [], harness := (true, "a1ae22a4e7d49890f9487f9cea2e61f01e10404aa9793fc3fbc61536f0cda7a3"), looks := false }, kinds := [], alts := [], laidByText := true, laidKinds := [.data], laidTests := true, laidLooks := .later }
def WitnessSettlesUptoCardSaid : Prop := Claim7.holds Tryz.pinned (.plain (OpenSpec.upto witnessSettlesSpec)) witnessSettlesUptoCard
end Rows
end Go.Proofs.YtjbgdpfkmcibbaaGreatDoor
