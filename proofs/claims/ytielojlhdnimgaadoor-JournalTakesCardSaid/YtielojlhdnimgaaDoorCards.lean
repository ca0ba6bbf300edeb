/-
  DERIVED. GIVEN WITH THE SEED: THE CARDS: each row of YtielojlhdnimgaaDoorRows.lean that lists a variable, with what it lists TIED to the program's text (the seventh form; the later family's looks); each row that meets fmt, with fmt's text TOLD by the authors' own Lean function (tested against real Go, not proved from fmt's source: count such statements apart). THE CARD IS WHAT COUNTS. Prove the row's statement (the work); the ties are given (YtielojlhdnimgaaDoorTie.lean); close each card by the builder's one call (the guide's Derived/Test/ToyasCard.lean, 'card_holds'). Laid BY PROGRAM, IN A SANDBOX (cutbox-door.mjs). By AI agents, Wed Nov 11 2026. No macro, syntax, notation, axiom, sorry.
-/
import Derived.Test.YtielojlhdnimgaaDoorRows
import GoSem.ClaimSeven
namespace Go.Proofs.YtielojlhdnimgaaDoor
namespace Rows

/-- THE TIED CARD OF 'florinlaw19.JournalBack'. -/
def journalBackCard : Claim7 := { stood := { row := journalBackRow, standIns := [], harness := (true, "fa793b28ac37a465078fc55c66617789ba132d85ec522cdaf7a046b9d70a27fb"), looks := false }, kinds := [], alts := [], laidByText := true, laidKinds := [.data, .data], laidTests := true, laidLooks := .later }
def JournalBackCardSaid : Prop := Claim7.holds Tryd.pinned (.plain (OpenSpec.ofChange journalBackSpec)) journalBackCard

/-- THE TIED CARD OF 'florinlaw19.JournalTakes'. -/
def journalTakesCard : Claim7 := { stood := { row := journalTakesRow, standIns := [], harness := (true, "fa793b28ac37a465078fc55c66617789ba132d85ec522cdaf7a046b9d70a27fb"), looks := false }, kinds := [], alts := [], laidByText := true, laidKinds := [.data, .data], laidTests := true, laidLooks := .later }
def JournalTakesCardSaid : Prop := Claim7.holds Tryd.pinned (.plain (OpenSpec.ofChange journalTakesSpec)) journalTakesCard

/-- THE TIED CARD OF 'florinlaw19.JournalTruncates'. -/
def journalTruncatesCard : Claim7 := { stood := { row := journalTruncatesRow, standIns := [], harness := (true, "fa793b28ac37a465078fc55c66617789ba132d85ec522cdaf7a046b9d70a27fb"), looks := false }, kinds := [], alts := [], laidByText := true, laidKinds := [.data, .data], laidTests := true, laidLooks := .later }
def JournalTruncatesCardSaid : Prop := Claim7.holds Tryd.pinned (.plain (OpenSpec.ofChange journalTruncatesSpec)) journalTruncatesCard

/-- THE TIED CARD OF 'florinlaw19.JournalLast'. -/
def journalLastCard : Claim7 := { stood := { row := journalLastRow, standIns := [], harness := (true, "fa793b28ac37a465078fc55c66617789ba132d85ec522cdaf7a046b9d70a27fb"), looks := false }, kinds := [], alts := [], laidByText := true, laidKinds := [.data, .data], laidTests := true, laidLooks := .later }
def JournalLastCardSaid : Prop := Claim7.holds Tryd.pinned (.plain (OpenSpec.ofChange journalLastSpec)) journalLastCard

/-- THE TIED CARD OF 'florinlaw19.JournalCrash'. -/
def journalCrashCard : Claim7 := { stood := { row := journalCrashRow, standIns := [], harness := (true, "fa793b28ac37a465078fc55c66617789ba132d85ec522cdaf7a046b9d70a27fb"), looks := false }, kinds := [], alts := [], laidByText := true, laidKinds := [.data, .data], laidTests := true, laidLooks := .later }
def JournalCrashCardSaid : Prop := Claim7.holds Tryd.pinned (.plain (OpenSpec.ofChange journalCrashSpec)) journalCrashCard

/-- THE SECOND FORM's CARD OF 'florinlaw19.JournalBack'. -/
def journalBackUptoCard : Claim7 := { stood := { row := journalBackUptoRow, standIns := [], harness := (true, "fa793b28ac37a465078fc55c66617789ba132d85ec522cdaf7a046b9d70a27fb"), looks := false }, kinds := [], alts := [], laidByText := true, laidKinds := [.data, .data], laidTests := true, laidLooks := .later }
def JournalBackUptoCardSaid : Prop := Claim7.holds Tryd.pinned (.plain (OpenSpec.upto journalBackSpec)) journalBackUptoCard

/-- THE SECOND FORM's CARD OF 'florinlaw19.JournalTakes'. -/
def journalTakesUptoCard : Claim7 := { stood := { row := journalTakesUptoRow, standIns := [], harness := (true, "fa793b28ac37a465078fc55c66617789ba132d85ec522cdaf7a046b9d70a27fb"), looks := false }, kinds := [], alts := [], laidByText := true, laidKinds := [.data, .data], laidTests := true, laidLooks := .later }
def JournalTakesUptoCardSaid : Prop := Claim7.holds Tryd.pinned (.plain (OpenSpec.upto journalTakesSpec)) journalTakesUptoCard

/-- THE SECOND FORM's CARD OF 'florinlaw19.JournalTruncates'. -/
def journalTruncatesUptoCard : Claim7 := { stood := { row := journalTruncatesUptoRow, standIns := [], harness := (true, "fa793b28ac37a465078fc55c66617789ba132d85ec522cdaf7a046b9d70a27fb"), looks := false }, kinds := [], alts := [], laidByText := true, laidKinds := [.data, .data], laidTests := true, laidLooks := .later }
def JournalTruncatesUptoCardSaid : Prop := Claim7.holds Tryd.pinned (.plain (OpenSpec.upto journalTruncatesSpec)) journalTruncatesUptoCard

/-- THE SECOND FORM's CARD OF 'florinlaw19.JournalLast'. -/
def journalLastUptoCard : Claim7 := { stood := { row := journalLastUptoRow, standIns := [], harness := (true, "fa793b28ac37a465078fc55c66617789ba132d85ec522cdaf7a046b9d70a27fb"), looks := false }, kinds := [], alts := [], laidByText := true, laidKinds := [.data, .data], laidTests := true, laidLooks := .later }
def JournalLastUptoCardSaid : Prop := Claim7.holds Tryd.pinned (.plain (OpenSpec.upto journalLastSpec)) journalLastUptoCard

/-- THE SECOND FORM's CARD OF 'florinlaw19.JournalCrash'. -/
def journalCrashUptoCard : Claim7 := { stood := { row := journalCrashUptoRow, standIns := [], harness := (true, "fa793b28ac37a465078fc55c66617789ba132d85ec522cdaf7a046b9d70a27fb"), looks := false }, kinds := [], alts := [], laidByText := true, laidKinds := [.data, .data], laidTests := true, laidLooks := .later }
def JournalCrashUptoCardSaid : Prop := Claim7.holds Tryd.pinned (.plain (OpenSpec.upto journalCrashSpec)) journalCrashUptoCard
end Rows
end Go.Proofs.YtielojlhdnimgaaDoor
