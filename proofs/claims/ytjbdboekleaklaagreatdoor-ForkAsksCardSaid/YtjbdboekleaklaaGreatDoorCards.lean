/-
  DERIVED. GIVEN WITH THE SEED: THE CARDS: each row of YtjbdboekleaklaaGreatDoorRows.lean that lists a variable, with what it lists TIED to the program's text (the seventh form; the later family's looks); each row that meets fmt, with fmt's text TOLD by the authors' own Lean function (tested against real Go, not proved from fmt's source: count such statements apart). THE CARD IS WHAT COUNTS. Prove the row's statement (the work); the ties are given (YtjbdboekleaklaaGreatDoorTie.lean); close each card by the builder's one call (the guide's Derived/Test/ToyasCard.lean, 'card_holds'). Laid BY PROGRAM, IN A SANDBOX (cutbox-door.mjs). By AI agents, Wed Nov 11 2026. No macro, syntax, notation, axiom, sorry.
-/
import Derived.Test.YtjbdboekleaklaaGreatDoorRows
import GoSem.ClaimSeven
namespace Go.Proofs.YtjbdboekleaklaaGreatDoor
namespace Rows

/-- THE TIED CARD OF 'florinlaw17.ForkReorg'. -/
def forkReorgCard : Claim7 := { stood := { row := forkReorgRow, standIns := [], harness := (true, "3b43604e0612c3e62e06ba030ec042e7d300787cb42f03fb7703f6b5afc92dcd"), looks := true }, kinds := [], alts := [], laidByText := true, laidKinds := [.data, .data], laidTests := true, laidLooks := .later }
def ForkReorgCardSaid : Prop := Claim7.holds Tryz.pinned (.plain (OpenSpec.ofChange forkReorgSpec)) forkReorgCard

/-- THE TIED CARD OF 'florinlaw17.ForkDepth'. -/
def forkDepthCard : Claim7 := { stood := { row := forkDepthRow, standIns := [], harness := (true, "3b43604e0612c3e62e06ba030ec042e7d300787cb42f03fb7703f6b5afc92dcd"), looks := true }, kinds := [], alts := [], laidByText := true, laidKinds := [.data, .data], laidTests := true, laidLooks := .later }
def ForkDepthCardSaid : Prop := Claim7.holds Tryz.pinned (.plain (OpenSpec.ofChange forkDepthSpec)) forkDepthCard

/-- THE TIED CARD OF 'florinlaw17.ForkLocator'. -/
def forkLocatorCard : Claim7 := { stood := { row := forkLocatorRow, standIns := [], harness := (true, "3b43604e0612c3e62e06ba030ec042e7d300787cb42f03fb7703f6b5afc92dcd"), looks := true }, kinds := [], alts := [], laidByText := true, laidKinds := [.data, .data], laidTests := true, laidLooks := .later }
def ForkLocatorCardSaid : Prop := Claim7.holds Tryz.pinned (.plain (OpenSpec.ofChange forkLocatorSpec)) forkLocatorCard

/-- THE TIED CARD OF 'florinlaw17.ForkAfter'. -/
def forkAfterCard : Claim7 := { stood := { row := forkAfterRow, standIns := [], harness := (true, "3b43604e0612c3e62e06ba030ec042e7d300787cb42f03fb7703f6b5afc92dcd"), looks := true }, kinds := [], alts := [], laidByText := true, laidKinds := [.data, .data], laidTests := true, laidLooks := .later }
def ForkAfterCardSaid : Prop := Claim7.holds Tryz.pinned (.plain (OpenSpec.ofChange forkAfterSpec)) forkAfterCard

/-- THE TIED CARD OF 'florinlaw17.ForkAsks'. -/
def forkAsksCard : Claim7 := { stood := { row := forkAsksRow, standIns := [], harness := (true, "3b43604e0612c3e62e06ba030ec042e7d300787cb42f03fb7703f6b5afc92dcd"), looks := true }, kinds := [], alts := [], laidByText := true, laidKinds := [.data, .data], laidTests := true, laidLooks := .later }
def ForkAsksCardSaid : Prop := Claim7.holds Tryz.pinned (.plain (OpenSpec.ofChange forkAsksSpec)) forkAsksCard

/-- THE SECOND FORM's CARD OF 'florinlaw17.ForkReorg'. -/
def forkReorgUptoCard : Claim7 := { stood := { row := forkReorgUptoRow, standIns := [], harness := (true, "3b43604e0612c3e62e06ba030ec042e7d300787cb42f03fb7703f6b5afc92dcd"), looks := true }, kinds := [], alts := [], laidByText := true, laidKinds := [.data, .data], laidTests := true, laidLooks := .later }
def ForkReorgUptoCardSaid : Prop := Claim7.holds Tryz.pinned (.plain (OpenSpec.upto forkReorgSpec)) forkReorgUptoCard

/-- THE SECOND FORM's CARD OF 'florinlaw17.ForkDepth'. -/
def forkDepthUptoCard : Claim7 := { stood := { row := forkDepthUptoRow, standIns := [], harness := (true, "3b43604e0612c3e62e06ba030ec042e7d300787cb42f03fb7703f6b5afc92dcd"), looks := true }, kinds := [], alts := [], laidByText := true, laidKinds := [.data, .data], laidTests := true, laidLooks := .later }
def ForkDepthUptoCardSaid : Prop := Claim7.holds Tryz.pinned (.plain (OpenSpec.upto forkDepthSpec)) forkDepthUptoCard

/-- THE SECOND FORM's CARD OF 'florinlaw17.ForkLocator'. -/
def forkLocatorUptoCard : Claim7 := { stood := { row := forkLocatorUptoRow, standIns := [], harness := (true, "3b43604e0612c3e62e06ba030ec042e7d300787cb42f03fb7703f6b5afc92dcd"), looks := true }, kinds := [], alts := [], laidByText := true, laidKinds := [.data, .data], laidTests := true, laidLooks := .later }
def ForkLocatorUptoCardSaid : Prop := Claim7.holds Tryz.pinned (.plain (OpenSpec.upto forkLocatorSpec)) forkLocatorUptoCard

/-- THE SECOND FORM's CARD OF 'florinlaw17.ForkAfter'. -/
def forkAfterUptoCard : Claim7 := { stood := { row := forkAfterUptoRow, standIns := [], harness := (true, "3b43604e0612c3e62e06ba030ec042e7d300787cb42f03fb7703f6b5afc92dcd"), looks := true }, kinds := [], alts := [], laidByText := true, laidKinds := [.data, .data], laidTests := true, laidLooks := .later }
def ForkAfterUptoCardSaid : Prop := Claim7.holds Tryz.pinned (.plain (OpenSpec.upto forkAfterSpec)) forkAfterUptoCard

/-- THE SECOND FORM's CARD OF 'florinlaw17.ForkAsks'. -/
def forkAsksUptoCard : Claim7 := { stood := { row := forkAsksUptoRow, standIns := [], harness := (true, "3b43604e0612c3e62e06ba030ec042e7d300787cb42f03fb7703f6b5afc92dcd"), looks := true }, kinds := [], alts := [], laidByText := true, laidKinds := [.data, .data], laidTests := true, laidLooks := .later }
def ForkAsksUptoCardSaid : Prop := Claim7.holds Tryz.pinned (.plain (OpenSpec.upto forkAsksSpec)) forkAsksUptoCard
end Rows
end Go.Proofs.YtjbdboekleaklaaGreatDoor
