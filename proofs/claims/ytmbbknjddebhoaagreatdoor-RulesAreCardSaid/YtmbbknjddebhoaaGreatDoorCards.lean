/-
  DERIVED. GIVEN WITH THE SEED: THE CARDS: each row of YtmbbknjddebhoaaGreatDoorRows.lean that lists a variable, with what it lists TIED to the program's text (the seventh form; the later family's looks); each row that meets fmt, with fmt's text TOLD by the authors' own Lean function (tested against real Go, not proved from fmt's source: count such statements apart). THE CARD IS WHAT COUNTS. Prove the row's statement (the work); the ties are given (YtmbbknjddebhoaaGreatDoorTie.lean); close each card by the builder's one call (the guide's Derived/Test/ToyasCard.lean, 'card_holds'). Laid BY PROGRAM, IN A SANDBOX (cutbox-door.mjs). By AI agents, Wed Nov 11 2026. No macro, syntax, notation, axiom, sorry.
-/
import Derived.Test.YtmbbknjddebhoaaGreatDoorRows
import GoSem.ClaimSeven
namespace Go.Proofs.YtmbbknjddebhoaaGreatDoor
namespace Rows

/-- THE TIED CARD OF 'florinlaw16.RulesAre'. -/
def rulesAreCard : Claim7 := { stood := { row := rulesAreRow, standIns := [], harness := (true, "9ac876aaf4a28d9cecf98aa73b514389c47f611adbf8cde138f5a0bb3745ec6f"), looks := true }, kinds := [], alts := [], laidByText := true, laidKinds := [.data, .data], laidTests := true, laidLooks := .later }
def RulesAreCardSaid : Prop := Claim7.holds Tryz.pinned (.plain (OpenSpec.ofChange rulesAreSpec)) rulesAreCard

/-- THE SECOND FORM's CARD OF 'florinlaw16.RulesAre'. -/
def rulesAreUptoCard : Claim7 := { stood := { row := rulesAreUptoRow, standIns := [], harness := (true, "9ac876aaf4a28d9cecf98aa73b514389c47f611adbf8cde138f5a0bb3745ec6f"), looks := true }, kinds := [], alts := [], laidByText := true, laidKinds := [.data, .data], laidTests := true, laidLooks := .later }
def RulesAreUptoCardSaid : Prop := Claim7.holds Tryz.pinned (.plain (OpenSpec.upto rulesAreSpec)) rulesAreUptoCard
end Rows
end Go.Proofs.YtmbbknjddebhoaaGreatDoor
