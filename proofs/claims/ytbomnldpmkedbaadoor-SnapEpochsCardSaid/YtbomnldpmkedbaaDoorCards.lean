/-
  DERIVED. GIVEN WITH THE SEED: THE CARDS: each row of YtbomnldpmkedbaaDoorRows.lean that lists a variable, with what it lists TIED to the program's text (the seventh form; the later family's looks); each row that meets fmt, with fmt's text TOLD by the authors' own Lean function (tested against real Go, not proved from fmt's source: count such statements apart). THE CARD IS WHAT COUNTS. Prove the row's statement (the work); the ties are given (YtbomnldpmkedbaaDoorTie.lean); close each card by the builder's one call (the guide's Derived/Test/ToyasCard.lean, 'card_holds'). Laid BY PROGRAM, IN A SANDBOX (cutbox-door.mjs). By AI agents, Wed Nov 11 2026. No macro, syntax, notation, axiom, sorry.
-/
import Derived.Test.YtbomnldpmkedbaaDoorRows
import GoSem.ClaimSeven
namespace Go.Proofs.YtbomnldpmkedbaaDoor
namespace Rows

/-- THE TIED CARD OF 'florinlaw20.SnapRoom'. -/
def snapRoomCard : Claim7 := { stood := { row := snapRoomRow, standIns := [], harness := (true, "758c5bc57e79ad7c61fc7964cec9072c6b4e421873277ffbbe076c3c357d8863"), looks := false }, kinds := [], alts := [], laidByText := true, laidKinds := [.data, .data], laidTests := true, laidLooks := .later }
def SnapRoomCardSaid : Prop := Claim7.holds Tryd.pinned (.plain (OpenSpec.ofChange snapRoomSpec)) snapRoomCard

/-- THE TIED CARD OF 'florinlaw20.SnapEpochs'. -/
def snapEpochsCard : Claim7 := { stood := { row := snapEpochsRow, standIns := [], harness := (true, "758c5bc57e79ad7c61fc7964cec9072c6b4e421873277ffbbe076c3c357d8863"), looks := false }, kinds := [], alts := [], laidByText := true, laidKinds := [.data, .data], laidTests := true, laidLooks := .later }
def SnapEpochsCardSaid : Prop := Claim7.holds Tryd.pinned (.plain (OpenSpec.ofChange snapEpochsSpec)) snapEpochsCard

/-- THE TIED CARD OF 'florinlaw20.SnapAppends'. -/
def snapAppendsCard : Claim7 := { stood := { row := snapAppendsRow, standIns := [], harness := (true, "758c5bc57e79ad7c61fc7964cec9072c6b4e421873277ffbbe076c3c357d8863"), looks := false }, kinds := [], alts := [], laidByText := true, laidKinds := [.data, .data], laidTests := true, laidLooks := .later }
def SnapAppendsCardSaid : Prop := Claim7.holds Tryd.pinned (.plain (OpenSpec.ofChange snapAppendsSpec)) snapAppendsCard

/-- THE TIED CARD OF 'florinlaw20.SnapKeeps'. -/
def snapKeepsCard : Claim7 := { stood := { row := snapKeepsRow, standIns := [], harness := (true, "758c5bc57e79ad7c61fc7964cec9072c6b4e421873277ffbbe076c3c357d8863"), looks := false }, kinds := [], alts := [], laidByText := true, laidKinds := [.data, .data], laidTests := true, laidLooks := .later }
def SnapKeepsCardSaid : Prop := Claim7.holds Tryd.pinned (.plain (OpenSpec.ofChange snapKeepsSpec)) snapKeepsCard

/-- THE TIED CARD OF 'florinlaw20.SnapStops'. -/
def snapStopsCard : Claim7 := { stood := { row := snapStopsRow, standIns := [], harness := (true, "758c5bc57e79ad7c61fc7964cec9072c6b4e421873277ffbbe076c3c357d8863"), looks := false }, kinds := [], alts := [], laidByText := true, laidKinds := [.data, .data], laidTests := true, laidLooks := .later }
def SnapStopsCardSaid : Prop := Claim7.holds Tryd.pinned (.plain (OpenSpec.ofChange snapStopsSpec)) snapStopsCard

/-- THE SECOND FORM's CARD OF 'florinlaw20.SnapRoom'. -/
def snapRoomUptoCard : Claim7 := { stood := { row := snapRoomUptoRow, standIns := [], harness := (true, "758c5bc57e79ad7c61fc7964cec9072c6b4e421873277ffbbe076c3c357d8863"), looks := false }, kinds := [], alts := [], laidByText := true, laidKinds := [.data, .data], laidTests := true, laidLooks := .later }
def SnapRoomUptoCardSaid : Prop := Claim7.holds Tryd.pinned (.plain (OpenSpec.upto snapRoomSpec)) snapRoomUptoCard

/-- THE SECOND FORM's CARD OF 'florinlaw20.SnapEpochs'. -/
def snapEpochsUptoCard : Claim7 := { stood := { row := snapEpochsUptoRow, standIns := [], harness := (true, "758c5bc57e79ad7c61fc7964cec9072c6b4e421873277ffbbe076c3c357d8863"), looks := false }, kinds := [], alts := [], laidByText := true, laidKinds := [.data, .data], laidTests := true, laidLooks := .later }
def SnapEpochsUptoCardSaid : Prop := Claim7.holds Tryd.pinned (.plain (OpenSpec.upto snapEpochsSpec)) snapEpochsUptoCard

/-- THE SECOND FORM's CARD OF 'florinlaw20.SnapAppends'. -/
def snapAppendsUptoCard : Claim7 := { stood := { row := snapAppendsUptoRow, standIns := [], harness := (true, "758c5bc57e79ad7c61fc7964cec9072c6b4e421873277ffbbe076c3c357d8863"), looks := false }, kinds := [], alts := [], laidByText := true, laidKinds := [.data, .data], laidTests := true, laidLooks := .later }
def SnapAppendsUptoCardSaid : Prop := Claim7.holds Tryd.pinned (.plain (OpenSpec.upto snapAppendsSpec)) snapAppendsUptoCard

/-- THE SECOND FORM's CARD OF 'florinlaw20.SnapKeeps'. -/
def snapKeepsUptoCard : Claim7 := { stood := { row := snapKeepsUptoRow, standIns := [], harness := (true, "758c5bc57e79ad7c61fc7964cec9072c6b4e421873277ffbbe076c3c357d8863"), looks := false }, kinds := [], alts := [], laidByText := true, laidKinds := [.data, .data], laidTests := true, laidLooks := .later }
def SnapKeepsUptoCardSaid : Prop := Claim7.holds Tryd.pinned (.plain (OpenSpec.upto snapKeepsSpec)) snapKeepsUptoCard

/-- THE SECOND FORM's CARD OF 'florinlaw20.SnapStops'. -/
def snapStopsUptoCard : Claim7 := { stood := { row := snapStopsUptoRow, standIns := [], harness := (true, "758c5bc57e79ad7c61fc7964cec9072c6b4e421873277ffbbe076c3c357d8863"), looks := false }, kinds := [], alts := [], laidByText := true, laidKinds := [.data, .data], laidTests := true, laidLooks := .later }
def SnapStopsUptoCardSaid : Prop := Claim7.holds Tryd.pinned (.plain (OpenSpec.upto snapStopsSpec)) snapStopsUptoCard
end Rows
end Go.Proofs.YtbomnldpmkedbaaDoor
