/-
  DERIVED. GIVEN WITH THE SEED: THE CARDS: each row of YtffpanlpbdnafaaDoorRows.lean that lists a variable, with what it lists TIED to the program's text (the seventh form; the later family's looks); each row that meets fmt, with fmt's text TOLD by the authors' own Lean function (tested against real Go, not proved from fmt's source: count such statements apart). THE CARD IS WHAT COUNTS. Prove the row's statement (the work); the ties are given (YtffpanlpbdnafaaDoorTie.lean); close each card by the builder's one call (the guide's Derived/Test/ToyasCard.lean, 'card_holds'). Laid BY PROGRAM, IN A SANDBOX (cutbox-door.mjs). By AI agents, Wed Nov 11 2026. No macro, syntax, notation, axiom, sorry.
-/
import Derived.Test.YtffpanlpbdnafaaDoorRows
import GoSem.ClaimSeven
namespace Go.Proofs.YtffpanlpbdnafaaDoor
namespace Rows

/-- THE TIED CARD OF 'florinlaw22.PeerMisses'. -/
def peerMissesCard : Claim7 := { stood := { row := peerMissesRow, standIns := [], harness := (true, "3390bafc8d63ce6d6a3c30099f74fcbdd0fda7a70cfbc1467aee8012210b9ae2"), looks := true }, kinds := [], alts := [], laidByText := true, laidKinds := [.data, .data, .data, .pinned], laidTests := true, laidLooks := .later }
def PeerMissesCardSaid : Prop := Claim7.holds Tryd.pinned (.plain (OpenSpec.ofChange peerMissesSpec)) peerMissesCard

/-- THE TIED CARD OF 'florinlaw22.PeerTells'. -/
def peerTellsCard : Claim7 := { stood := { row := peerTellsRow, standIns := [], harness := (true, "3390bafc8d63ce6d6a3c30099f74fcbdd0fda7a70cfbc1467aee8012210b9ae2"), looks := true }, kinds := [], alts := [], laidByText := true, laidKinds := [.data, .data, .data, .pinned], laidTests := true, laidLooks := .later }
def PeerTellsCardSaid : Prop := Claim7.holds Tryd.pinned (.plain (OpenSpec.ofChange peerTellsSpec)) peerTellsCard

/-- THE TIED CARD OF 'florinlaw22.PeerKind'. -/
def peerKindCard : Claim7 := { stood := { row := peerKindRow, standIns := [], harness := (true, "3390bafc8d63ce6d6a3c30099f74fcbdd0fda7a70cfbc1467aee8012210b9ae2"), looks := true }, kinds := [], alts := [], laidByText := true, laidKinds := [.data, .data, .data, .pinned], laidTests := true, laidLooks := .later }
def PeerKindCardSaid : Prop := Claim7.holds Tryd.pinned (.plain (OpenSpec.ofChange peerKindSpec)) peerKindCard

/-- THE TIED CARD OF 'florinlaw22.PeerBanned'. -/
def peerBannedCard : Claim7 := { stood := { row := peerBannedRow, standIns := [], harness := (true, "3390bafc8d63ce6d6a3c30099f74fcbdd0fda7a70cfbc1467aee8012210b9ae2"), looks := true }, kinds := [], alts := [], laidByText := true, laidKinds := [.data, .data, .data, .pinned], laidTests := true, laidLooks := .later }
def PeerBannedCardSaid : Prop := Claim7.holds Tryd.pinned (.plain (OpenSpec.ofChange peerBannedSpec)) peerBannedCard

/-- THE SECOND FORM's CARD OF 'florinlaw22.PeerMisses'. -/
def peerMissesUptoCard : Claim7 := { stood := { row := peerMissesUptoRow, standIns := [], harness := (true, "3390bafc8d63ce6d6a3c30099f74fcbdd0fda7a70cfbc1467aee8012210b9ae2"), looks := true }, kinds := [], alts := [], laidByText := true, laidKinds := [.data, .data, .data, .pinned], laidTests := true, laidLooks := .later }
def PeerMissesUptoCardSaid : Prop := Claim7.holds Tryd.pinned (.plain (OpenSpec.upto peerMissesSpec)) peerMissesUptoCard

/-- THE SECOND FORM's CARD OF 'florinlaw22.PeerTells'. -/
def peerTellsUptoCard : Claim7 := { stood := { row := peerTellsUptoRow, standIns := [], harness := (true, "3390bafc8d63ce6d6a3c30099f74fcbdd0fda7a70cfbc1467aee8012210b9ae2"), looks := true }, kinds := [], alts := [], laidByText := true, laidKinds := [.data, .data, .data, .pinned], laidTests := true, laidLooks := .later }
def PeerTellsUptoCardSaid : Prop := Claim7.holds Tryd.pinned (.plain (OpenSpec.upto peerTellsSpec)) peerTellsUptoCard

/-- THE SECOND FORM's CARD OF 'florinlaw22.PeerKind'. -/
def peerKindUptoCard : Claim7 := { stood := { row := peerKindUptoRow, standIns := [], harness := (true, "3390bafc8d63ce6d6a3c30099f74fcbdd0fda7a70cfbc1467aee8012210b9ae2"), looks := true }, kinds := [], alts := [], laidByText := true, laidKinds := [.data, .data, .data, .pinned], laidTests := true, laidLooks := .later }
def PeerKindUptoCardSaid : Prop := Claim7.holds Tryd.pinned (.plain (OpenSpec.upto peerKindSpec)) peerKindUptoCard

/-- THE SECOND FORM's CARD OF 'florinlaw22.PeerBanned'. -/
def peerBannedUptoCard : Claim7 := { stood := { row := peerBannedUptoRow, standIns := [], harness := (true, "3390bafc8d63ce6d6a3c30099f74fcbdd0fda7a70cfbc1467aee8012210b9ae2"), looks := true }, kinds := [], alts := [], laidByText := true, laidKinds := [.data, .data, .data, .pinned], laidTests := true, laidLooks := .later }
def PeerBannedUptoCardSaid : Prop := Claim7.holds Tryd.pinned (.plain (OpenSpec.upto peerBannedSpec)) peerBannedUptoCard
end Rows
end Go.Proofs.YtffpanlpbdnafaaDoor
