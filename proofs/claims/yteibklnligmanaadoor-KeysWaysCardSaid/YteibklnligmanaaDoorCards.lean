/-
  DERIVED. GIVEN WITH THE SEED: THE CARDS: each row of YteibklnligmanaaDoorRows.lean that lists a variable, with what it lists TIED to the program's text (the seventh form; the later family's looks); each row that meets fmt, with fmt's text TOLD by the authors' own Lean function (tested against real Go, not proved from fmt's source: count such statements apart). THE CARD IS WHAT COUNTS. Prove the row's statement (the work); the ties are given (YteibklnligmanaaDoorTie.lean); close each card by the builder's one call (the guide's Derived/Test/ToyasCard.lean, 'card_holds'). Laid BY PROGRAM, IN A SANDBOX (cutbox-door.mjs). By AI agents, Wed Nov 11 2026. No macro, syntax, notation, axiom, sorry.
-/
import Derived.Test.YteibklnligmanaaDoorRows
import GoSem.ClaimSeven
namespace Go.Proofs.YteibklnligmanaaDoor
namespace Rows

/-- THE TIED CARD OF 'cryptexlaw14.KeysTells'. -/
def keysTellsCard : Claim7 := { stood := { row := keysTellsRow, standIns := [], harness := (true, "8121a7cd6eabe8e789e589bdd19ec68bd3d0b0b8e41c7ad07d9b8bfe37b8737a"), looks := true }, kinds := [], alts := [], laidByText := true, laidKinds := [.data, .data, .mapped], laidTests := true, laidLooks := .later }
def KeysTellsCardSaid : Prop := Claim7.holds Tryd.pinned (.plain (OpenSpec.ofChange keysTellsSpec)) keysTellsCard

/-- THE TIED CARD OF 'cryptexlaw14.KeysWays'. -/
def keysWaysCard : Claim7 := { stood := { row := keysWaysRow, standIns := [], harness := (true, "8121a7cd6eabe8e789e589bdd19ec68bd3d0b0b8e41c7ad07d9b8bfe37b8737a"), looks := true }, kinds := [], alts := [], laidByText := true, laidKinds := [.data, .data, .mapped], laidTests := true, laidLooks := .later }
def KeysWaysCardSaid : Prop := Claim7.holds Tryd.pinned (.plain (OpenSpec.ofChange keysWaysSpec)) keysWaysCard

/-- THE TIED CARD OF 'cryptexlaw14.KeysNonces'. -/
def keysNoncesCard : Claim7 := { stood := { row := keysNoncesRow, standIns := [], harness := (true, "8121a7cd6eabe8e789e589bdd19ec68bd3d0b0b8e41c7ad07d9b8bfe37b8737a"), looks := true }, kinds := [], alts := [], laidByText := true, laidKinds := [.data, .data, .mapped], laidTests := true, laidLooks := .later }
def KeysNoncesCardSaid : Prop := Claim7.holds Tryd.pinned (.plain (OpenSpec.ofChange keysNoncesSpec)) keysNoncesCard

/-- THE TIED CARD OF 'cryptexlaw14.KeysLabels'. -/
def keysLabelsCard : Claim7 := { stood := { row := keysLabelsRow, standIns := [], harness := (true, "8121a7cd6eabe8e789e589bdd19ec68bd3d0b0b8e41c7ad07d9b8bfe37b8737a"), looks := true }, kinds := [], alts := [], laidByText := true, laidKinds := [.data, .data, .mapped], laidTests := true, laidLooks := .later }
def KeysLabelsCardSaid : Prop := Claim7.holds Tryd.pinned (.plain (OpenSpec.ofChange keysLabelsSpec)) keysLabelsCard

/-- THE SECOND FORM's CARD OF 'cryptexlaw14.KeysTells'. -/
def keysTellsUptoCard : Claim7 := { stood := { row := keysTellsUptoRow, standIns := [], harness := (true, "8121a7cd6eabe8e789e589bdd19ec68bd3d0b0b8e41c7ad07d9b8bfe37b8737a"), looks := true }, kinds := [], alts := [], laidByText := true, laidKinds := [.data, .data, .mapped], laidTests := true, laidLooks := .later }
def KeysTellsUptoCardSaid : Prop := Claim7.holds Tryd.pinned (.plain (OpenSpec.upto keysTellsSpec)) keysTellsUptoCard

/-- THE SECOND FORM's CARD OF 'cryptexlaw14.KeysWays'. -/
def keysWaysUptoCard : Claim7 := { stood := { row := keysWaysUptoRow, standIns := [], harness := (true, "8121a7cd6eabe8e789e589bdd19ec68bd3d0b0b8e41c7ad07d9b8bfe37b8737a"), looks := true }, kinds := [], alts := [], laidByText := true, laidKinds := [.data, .data, .mapped], laidTests := true, laidLooks := .later }
def KeysWaysUptoCardSaid : Prop := Claim7.holds Tryd.pinned (.plain (OpenSpec.upto keysWaysSpec)) keysWaysUptoCard

/-- THE SECOND FORM's CARD OF 'cryptexlaw14.KeysNonces'. -/
def keysNoncesUptoCard : Claim7 := { stood := { row := keysNoncesUptoRow, standIns := [], harness := (true, "8121a7cd6eabe8e789e589bdd19ec68bd3d0b0b8e41c7ad07d9b8bfe37b8737a"), looks := true }, kinds := [], alts := [], laidByText := true, laidKinds := [.data, .data, .mapped], laidTests := true, laidLooks := .later }
def KeysNoncesUptoCardSaid : Prop := Claim7.holds Tryd.pinned (.plain (OpenSpec.upto keysNoncesSpec)) keysNoncesUptoCard

/-- THE SECOND FORM's CARD OF 'cryptexlaw14.KeysLabels'. -/
def keysLabelsUptoCard : Claim7 := { stood := { row := keysLabelsUptoRow, standIns := [], harness := (true, "8121a7cd6eabe8e789e589bdd19ec68bd3d0b0b8e41c7ad07d9b8bfe37b8737a"), looks := true }, kinds := [], alts := [], laidByText := true, laidKinds := [.data, .data, .mapped], laidTests := true, laidLooks := .later }
def KeysLabelsUptoCardSaid : Prop := Claim7.holds Tryd.pinned (.plain (OpenSpec.upto keysLabelsSpec)) keysLabelsUptoCard
end Rows
end Go.Proofs.YteibklnligmanaaDoor
