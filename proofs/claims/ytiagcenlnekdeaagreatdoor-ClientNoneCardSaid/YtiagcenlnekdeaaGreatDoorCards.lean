/-
  DERIVED. GIVEN WITH THE SEED: THE CARDS: each row of YtiagcenlnekdeaaGreatDoorRows.lean that lists a variable, with what it lists TIED to the program's text (the seventh form; the later family's looks); each row that meets fmt, with fmt's text TOLD by the authors' own Lean function (tested against real Go, not proved from fmt's source: count such statements apart). THE CARD IS WHAT COUNTS. Prove the row's statement (the work); the ties are given (YtiagcenlnekdeaaGreatDoorTie.lean); close each card by the builder's one call (the guide's Derived/Test/ToyasCard.lean, 'card_holds'). Laid BY PROGRAM, IN A SANDBOX (cutbox-door.mjs). By AI agents, Wed Nov 11 2026. No macro, syntax, notation, axiom, sorry.
-/
import Derived.Test.YtiagcenlnekdeaaGreatDoorRows
import GoSem.ClaimSeven
namespace Go.Proofs.YtiagcenlnekdeaaGreatDoor
namespace Rows

/-- THE TIED CARD OF 'florinlaw24.ClientNone'. -/
def clientNoneCard : Claim7 := { stood := { row := clientNoneRow, standIns := [], harness := (true, "0d37323fc1e65a2803e9c51ec36278d8296602543e138c09a913e92786ccc022"), looks := true }, kinds := [], alts := [], laidByText := true, laidKinds := [.data, .data, .data, .pinned], laidTests := true, laidLooks := .later }
def ClientNoneCardSaid : Prop := Claim7.holds Tryz.pinned (.plain (OpenSpec.ofChange clientNoneSpec)) clientNoneCard

/-- THE SECOND FORM's CARD OF 'florinlaw24.ClientNone'. -/
def clientNoneUptoCard : Claim7 := { stood := { row := clientNoneUptoRow, standIns := [], harness := (true, "0d37323fc1e65a2803e9c51ec36278d8296602543e138c09a913e92786ccc022"), looks := true }, kinds := [], alts := [], laidByText := true, laidKinds := [.data, .data, .data, .pinned], laidTests := true, laidLooks := .later }
def ClientNoneUptoCardSaid : Prop := Claim7.holds Tryz.pinned (.plain (OpenSpec.upto clientNoneSpec)) clientNoneUptoCard
end Rows
end Go.Proofs.YtiagcenlnekdeaaGreatDoor
