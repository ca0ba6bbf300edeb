/-
  DERIVED. GIVEN WITH THE SEED: THE CARDS: each row of YteoilddiilegmaaDoorRows.lean that lists a variable, with what it lists TIED to the program's text (the seventh form; the later family's looks); each row that meets fmt, with fmt's text TOLD by the authors' own Lean function (tested against real Go, not proved from fmt's source: count such statements apart). THE CARD IS WHAT COUNTS. Prove the row's statement (the work); the ties are given (YteoilddiilegmaaDoorTie.lean); close each card by the builder's one call (the guide's Derived/Test/ToyasCard.lean, 'card_holds'). Laid BY PROGRAM, IN A SANDBOX (cutbox-door.mjs). By AI agents, Wed Nov 11 2026. No macro, syntax, notation, axiom, sorry.
-/
import Derived.Test.YteoilddiilegmaaDoorRows
import GoSem.ClaimSeven
namespace Go.Proofs.YteoilddiilegmaaDoor
namespace Rows

/-- THE TIED CARD OF 'florinlaw16.RulesMay'. -/
def rulesMayCard : Claim7 := { stood := { row := rulesMayRow, standIns := [], harness := (true, "1d649157c7dd4efe411219e156d893a91898c5d75a19065f0303460446feb0ca"), looks := true }, kinds := [], alts := [], laidByText := true, laidKinds := [.data, .data], laidTests := true, laidLooks := .later }
def RulesMayCardSaid : Prop := Claim7.holds Tryd.pinned (.plain (OpenSpec.ofChange rulesMaySpec)) rulesMayCard

/-- THE TIED CARD OF 'florinlaw16.RulesSpoilt'. -/
def rulesSpoiltCard : Claim7 := { stood := { row := rulesSpoiltRow, standIns := [], harness := (true, "1d649157c7dd4efe411219e156d893a91898c5d75a19065f0303460446feb0ca"), looks := true }, kinds := [], alts := [], laidByText := true, laidKinds := [.data, .data], laidTests := true, laidLooks := .later }
def RulesSpoiltCardSaid : Prop := Claim7.holds Tryd.pinned (.plain (OpenSpec.ofChange rulesSpoiltSpec)) rulesSpoiltCard

/-- THE TIED CARD OF 'florinlaw16.RulesWork'. -/
def rulesWorkCard : Claim7 := { stood := { row := rulesWorkRow, standIns := [], harness := (true, "1d649157c7dd4efe411219e156d893a91898c5d75a19065f0303460446feb0ca"), looks := true }, kinds := [], alts := [], laidByText := true, laidKinds := [.data, .data], laidTests := true, laidLooks := .later }
def RulesWorkCardSaid : Prop := Claim7.holds Tryd.pinned (.plain (OpenSpec.ofChange rulesWorkSpec)) rulesWorkCard

/-- THE TIED CARD OF 'florinlaw16.RulesParts'. -/
def rulesPartsCard : Claim7 := { stood := { row := rulesPartsRow, standIns := [], harness := (true, "1d649157c7dd4efe411219e156d893a91898c5d75a19065f0303460446feb0ca"), looks := true }, kinds := [], alts := [], laidByText := true, laidKinds := [.data, .data], laidTests := true, laidLooks := .later }
def RulesPartsCardSaid : Prop := Claim7.holds Tryd.pinned (.plain (OpenSpec.ofChange rulesPartsSpec)) rulesPartsCard

/-- THE TIED CARD OF 'florinlaw16.RulesLater'. -/
def rulesLaterCard : Claim7 := { stood := { row := rulesLaterRow, standIns := [], harness := (true, "1d649157c7dd4efe411219e156d893a91898c5d75a19065f0303460446feb0ca"), looks := true }, kinds := [], alts := [], laidByText := true, laidKinds := [.data, .data], laidTests := true, laidLooks := .later }
def RulesLaterCardSaid : Prop := Claim7.holds Tryd.pinned (.plain (OpenSpec.ofChange rulesLaterSpec)) rulesLaterCard

/-- THE SECOND FORM's CARD OF 'florinlaw16.RulesMay'. -/
def rulesMayUptoCard : Claim7 := { stood := { row := rulesMayUptoRow, standIns := [], harness := (true, "1d649157c7dd4efe411219e156d893a91898c5d75a19065f0303460446feb0ca"), looks := true }, kinds := [], alts := [], laidByText := true, laidKinds := [.data, .data], laidTests := true, laidLooks := .later }
def RulesMayUptoCardSaid : Prop := Claim7.holds Tryd.pinned (.plain (OpenSpec.upto rulesMaySpec)) rulesMayUptoCard

/-- THE SECOND FORM's CARD OF 'florinlaw16.RulesSpoilt'. -/
def rulesSpoiltUptoCard : Claim7 := { stood := { row := rulesSpoiltUptoRow, standIns := [], harness := (true, "1d649157c7dd4efe411219e156d893a91898c5d75a19065f0303460446feb0ca"), looks := true }, kinds := [], alts := [], laidByText := true, laidKinds := [.data, .data], laidTests := true, laidLooks := .later }
def RulesSpoiltUptoCardSaid : Prop := Claim7.holds Tryd.pinned (.plain (OpenSpec.upto rulesSpoiltSpec)) rulesSpoiltUptoCard

/-- THE SECOND FORM's CARD OF 'florinlaw16.RulesWork'. -/
def rulesWorkUptoCard : Claim7 := { stood := { row := rulesWorkUptoRow, standIns := [], harness := (true, "1d649157c7dd4efe411219e156d893a91898c5d75a19065f0303460446feb0ca"), looks := true }, kinds := [], alts := [], laidByText := true, laidKinds := [.data, .data], laidTests := true, laidLooks := .later }
def RulesWorkUptoCardSaid : Prop := Claim7.holds Tryd.pinned (.plain (OpenSpec.upto rulesWorkSpec)) rulesWorkUptoCard

/-- THE SECOND FORM's CARD OF 'florinlaw16.RulesParts'. -/
def rulesPartsUptoCard : Claim7 := { stood := { row := rulesPartsUptoRow, standIns := [], harness := (true, "1d649157c7dd4efe411219e156d893a91898c5d75a19065f0303460446feb0ca"), looks := true }, kinds := [], alts := [], laidByText := true, laidKinds := [.data, .data], laidTests := true, laidLooks := .later }
def RulesPartsUptoCardSaid : Prop := Claim7.holds Tryd.pinned (.plain (OpenSpec.upto rulesPartsSpec)) rulesPartsUptoCard

/-- THE SECOND FORM's CARD OF 'florinlaw16.RulesLater'. -/
def rulesLaterUptoCard : Claim7 := { stood := { row := rulesLaterUptoRow, standIns := [], harness := (true, "1d649157c7dd4efe411219e156d893a91898c5d75a19065f0303460446feb0ca"), looks := true }, kinds := [], alts := [], laidByText := true, laidKinds := [.data, .data], laidTests := true, laidLooks := .later }
def RulesLaterUptoCardSaid : Prop := Claim7.holds Tryd.pinned (.plain (OpenSpec.upto rulesLaterSpec)) rulesLaterUptoCard
end Rows
end Go.Proofs.YteoilddiilegmaaDoor
