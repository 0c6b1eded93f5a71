/-
  DERIVED. GIVEN WITH THE SEED: THE CARDS: each row of YtbjphckpbkacaaaGreatDoorRows.lean that lists a variable, with what it lists TIED to the program's text (the seventh form; the later family's looks); each row that meets fmt, with fmt's text TOLD by the authors' own Lean function (tested against real Go, not proved from fmt's source: count such statements apart). THE CARD IS WHAT COUNTS. Prove the row's statement (the work); the ties are given (YtbjphckpbkacaaaGreatDoorTie.lean); close each card by the builder's one call (the guide's Derived/Test/ToyasCard.lean, 'card_holds'). Laid BY PROGRAM, IN A SANDBOX (cutbox-door.mjs). By AI agents, Wed Nov 11 2026. No macro, syntax, notation, axiom, sorry.
-/
import Derived.Test.YtbjphckpbkacaaaGreatDoorRows
import GoSem.ClaimSeven
namespace Go.Proofs.YtbjphckpbkacaaaGreatDoor
namespace Rows

/-- THE TIED CARD OF 'cryptexlaw11.PathSteps'. -/
def pathStepsCard : Claim7 := { stood := { row := pathStepsRow, standIns := [], harness := (true, "4d740d5e538f9f114ae2a009d942faeb70267872a5c0a0382e73fd7171c8f1dd"), looks := true }, kinds := [], alts := [], laidByText := true, laidKinds := [.data, .data, .data, .data, .handle, .sentinel, .sentinel, .mapped, .mapped, .pinned], laidTests := true, laidLooks := .later }
def PathStepsCardSaid : Prop := Claim7.holds Tryz.pinned (.plain (OpenSpec.ofChange pathStepsSpec)) pathStepsCard

/-- THE TIED CARD OF 'cryptexlaw11.PathBack'. -/
def pathBackCard : Claim7 := { stood := { row := pathBackRow, standIns := [], harness := (true, "4d740d5e538f9f114ae2a009d942faeb70267872a5c0a0382e73fd7171c8f1dd"), looks := true }, kinds := [], alts := [], laidByText := true, laidKinds := [.data, .data, .data, .data, .handle, .sentinel, .sentinel, .mapped, .mapped, .pinned], laidTests := true, laidLooks := .later }
def PathBackCardSaid : Prop := Claim7.holds Tryz.pinned (.plain (OpenSpec.ofChange pathBackSpec)) pathBackCard

/-- THE TIED CARD OF 'cryptexlaw11.PathDeletes'. -/
def pathDeletesCard : Claim7 := { stood := { row := pathDeletesRow, standIns := [], harness := (true, "4d740d5e538f9f114ae2a009d942faeb70267872a5c0a0382e73fd7171c8f1dd"), looks := true }, kinds := [], alts := [], laidByText := true, laidKinds := [.data, .data, .data, .data, .handle, .sentinel, .sentinel, .mapped, .mapped, .pinned], laidTests := true, laidLooks := .later }
def PathDeletesCardSaid : Prop := Claim7.holds Tryz.pinned (.plain (OpenSpec.ofChange pathDeletesSpec)) pathDeletesCard

/-- THE SECOND FORM's CARD OF 'cryptexlaw11.PathSteps'. -/
def pathStepsUptoCard : Claim7 := { stood := { row := pathStepsUptoRow, standIns := [], harness := (true, "4d740d5e538f9f114ae2a009d942faeb70267872a5c0a0382e73fd7171c8f1dd"), looks := true }, kinds := [], alts := [], laidByText := true, laidKinds := [.data, .data, .data, .data, .handle, .sentinel, .sentinel, .mapped, .mapped, .pinned], laidTests := true, laidLooks := .later }
def PathStepsUptoCardSaid : Prop := Claim7.holds Tryz.pinned (.plain (OpenSpec.upto pathStepsSpec)) pathStepsUptoCard

/-- THE SECOND FORM's CARD OF 'cryptexlaw11.PathBack'. -/
def pathBackUptoCard : Claim7 := { stood := { row := pathBackUptoRow, standIns := [], harness := (true, "4d740d5e538f9f114ae2a009d942faeb70267872a5c0a0382e73fd7171c8f1dd"), looks := true }, kinds := [], alts := [], laidByText := true, laidKinds := [.data, .data, .data, .data, .handle, .sentinel, .sentinel, .mapped, .mapped, .pinned], laidTests := true, laidLooks := .later }
def PathBackUptoCardSaid : Prop := Claim7.holds Tryz.pinned (.plain (OpenSpec.upto pathBackSpec)) pathBackUptoCard

/-- THE SECOND FORM's CARD OF 'cryptexlaw11.PathDeletes'. -/
def pathDeletesUptoCard : Claim7 := { stood := { row := pathDeletesUptoRow, standIns := [], harness := (true, "4d740d5e538f9f114ae2a009d942faeb70267872a5c0a0382e73fd7171c8f1dd"), looks := true }, kinds := [], alts := [], laidByText := true, laidKinds := [.data, .data, .data, .data, .handle, .sentinel, .sentinel, .mapped, .mapped, .pinned], laidTests := true, laidLooks := .later }
def PathDeletesUptoCardSaid : Prop := Claim7.holds Tryz.pinned (.plain (OpenSpec.upto pathDeletesSpec)) pathDeletesUptoCard
end Rows
end Go.Proofs.YtbjphckpbkacaaaGreatDoor
