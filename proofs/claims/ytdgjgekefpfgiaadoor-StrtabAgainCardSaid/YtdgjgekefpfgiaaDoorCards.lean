/-
  DERIVED. GIVEN WITH THE SEED: THE CARDS: each row of YtdgjgekefpfgiaaDoorRows.lean that lists a variable, with what it lists TIED to the program's text (the seventh form; the later family's looks); each row that meets fmt, with fmt's text TOLD by the authors' own Lean function (tested against real Go, not proved from fmt's source: count such statements apart). THE CARD IS WHAT COUNTS. Prove the row's statement (the work); the ties are given (YtdgjgekefpfgiaaDoorTie.lean); close each card by the builder's one call (the guide's Derived/Test/ToyasCard.lean, 'card_holds'). Laid BY PROGRAM, IN A SANDBOX (cutbox-door.mjs). By AI agents, Wed Nov 11 2026. No macro, syntax, notation, axiom, sorry.
-/
import Derived.Test.YtdgjgekefpfgiaaDoorRows
import GoSem.ClaimSeven
namespace Go.Proofs.YtdgjgekefpfgiaaDoor
namespace Rows

/-- THE TIED CARD OF 'dioramalaw08.FieldLeast'. -/
def fieldLeastCard : Claim7 := { stood := { row := fieldLeastRow, standIns := [], harness := (true, "a32d5490ba0c15878be1a575147db49a8f9ad71b2dfc8a1fef2a41d63f3c981b"), looks := true }, kinds := [], alts := [], laidByText := true, laidKinds := [.data, .pinned], laidTests := true, laidLooks := .later }
def FieldLeastCardSaid : Prop := Claim7.holds Tryd.pinned (.plain (OpenSpec.ofChange fieldLeastSpec)) fieldLeastCard

/-- THE TIED CARD OF 'dioramalaw06.StrtabPuts'. -/
def strtabPutsCard : Claim7 := { stood := { row := strtabPutsRow, standIns := [], harness := (true, "a32d5490ba0c15878be1a575147db49a8f9ad71b2dfc8a1fef2a41d63f3c981b"), looks := true }, kinds := [], alts := [], laidByText := true, laidKinds := [.data, .pinned], laidTests := true, laidLooks := .later }
def StrtabPutsCardSaid : Prop := Claim7.holds Tryd.pinned (.plain (OpenSpec.ofChange strtabPutsSpec)) strtabPutsCard

/-- THE TIED CARD OF 'dioramalaw06.StrtabGets'. -/
def strtabGetsCard : Claim7 := { stood := { row := strtabGetsRow, standIns := [], harness := (true, "a32d5490ba0c15878be1a575147db49a8f9ad71b2dfc8a1fef2a41d63f3c981b"), looks := true }, kinds := [], alts := [], laidByText := true, laidKinds := [.data, .pinned], laidTests := true, laidLooks := .later }
def StrtabGetsCardSaid : Prop := Claim7.holds Tryd.pinned (.plain (OpenSpec.ofChange strtabGetsSpec)) strtabGetsCard

/-- THE TIED CARD OF 'dioramalaw06.StrtabBack'. -/
def strtabBackCard : Claim7 := { stood := { row := strtabBackRow, standIns := [], harness := (true, "a32d5490ba0c15878be1a575147db49a8f9ad71b2dfc8a1fef2a41d63f3c981b"), looks := true }, kinds := [], alts := [], laidByText := true, laidKinds := [.data, .pinned], laidTests := true, laidLooks := .later }
def StrtabBackCardSaid : Prop := Claim7.holds Tryd.pinned (.plain (OpenSpec.ofChange strtabBackSpec)) strtabBackCard

/-- THE TIED CARD OF 'dioramalaw06.StrtabOne'. -/
def strtabOneCard : Claim7 := { stood := { row := strtabOneRow, standIns := [], harness := (true, "a32d5490ba0c15878be1a575147db49a8f9ad71b2dfc8a1fef2a41d63f3c981b"), looks := true }, kinds := [], alts := [], laidByText := true, laidKinds := [.data, .pinned], laidTests := true, laidLooks := .later }
def StrtabOneCardSaid : Prop := Claim7.holds Tryd.pinned (.plain (OpenSpec.ofChange strtabOneSpec)) strtabOneCard

/-- THE TIED CARD OF 'dioramalaw06.StrtabAgain'. -/
def strtabAgainCard : Claim7 := { stood := { row := strtabAgainRow, standIns := [], harness := (true, "a32d5490ba0c15878be1a575147db49a8f9ad71b2dfc8a1fef2a41d63f3c981b"), looks := true }, kinds := [], alts := [], laidByText := true, laidKinds := [.data, .pinned], laidTests := true, laidLooks := .later }
def StrtabAgainCardSaid : Prop := Claim7.holds Tryd.pinned (.plain (OpenSpec.ofChange strtabAgainSpec)) strtabAgainCard

/-- THE TIED CARD OF 'dioramalaw12.LimitValid'. -/
def limitValidCard : Claim7 := { stood := { row := limitValidRow, standIns := [], harness := (true, "a32d5490ba0c15878be1a575147db49a8f9ad71b2dfc8a1fef2a41d63f3c981b"), looks := true }, kinds := [], alts := [], laidByText := true, laidKinds := [.data, .pinned], laidTests := true, laidLooks := .later }
def LimitValidCardSaid : Prop := Claim7.holds Tryd.pinned (.plain (OpenSpec.ofChange limitValidSpec)) limitValidCard

/-- THE TIED CARD OF 'dioramalaw12.LimitMeasures'. -/
def limitMeasuresCard : Claim7 := { stood := { row := limitMeasuresRow, standIns := [], harness := (true, "a32d5490ba0c15878be1a575147db49a8f9ad71b2dfc8a1fef2a41d63f3c981b"), looks := true }, kinds := [], alts := [], laidByText := true, laidKinds := [.data, .pinned], laidTests := true, laidLooks := .later }
def LimitMeasuresCardSaid : Prop := Claim7.holds Tryd.pinned (.plain (OpenSpec.ofChange limitMeasuresSpec)) limitMeasuresCard

/-- THE TIED CARD OF 'dioramalaw12.LimitGrows'. -/
def limitGrowsCard : Claim7 := { stood := { row := limitGrowsRow, standIns := [], harness := (true, "a32d5490ba0c15878be1a575147db49a8f9ad71b2dfc8a1fef2a41d63f3c981b"), looks := true }, kinds := [], alts := [], laidByText := true, laidKinds := [.data, .pinned], laidTests := true, laidLooks := .later }
def LimitGrowsCardSaid : Prop := Claim7.holds Tryd.pinned (.plain (OpenSpec.ofChange limitGrowsSpec)) limitGrowsCard

/-- THE TIED CARD OF 'dioramalaw12.LimitOrder'. -/
def limitOrderCard : Claim7 := { stood := { row := limitOrderRow, standIns := [], harness := (true, "a32d5490ba0c15878be1a575147db49a8f9ad71b2dfc8a1fef2a41d63f3c981b"), looks := true }, kinds := [], alts := [], laidByText := true, laidKinds := [.data, .pinned], laidTests := true, laidLooks := .later }
def LimitOrderCardSaid : Prop := Claim7.holds Tryd.pinned (.plain (OpenSpec.ofChange limitOrderSpec)) limitOrderCard

/-- THE TIED CARD OF 'dioramalaw13.RecordPuts'. -/
def recordPutsCard : Claim7 := { stood := { row := recordPutsRow, standIns := [], harness := (true, "a32d5490ba0c15878be1a575147db49a8f9ad71b2dfc8a1fef2a41d63f3c981b"), looks := true }, kinds := [], alts := [], laidByText := true, laidKinds := [.data, .pinned], laidTests := true, laidLooks := .later }
def RecordPutsCardSaid : Prop := Claim7.holds Tryd.pinned (.plain (OpenSpec.ofChange recordPutsSpec)) recordPutsCard

/-- THE TIED CARD OF 'dioramalaw13.RecordMoved'. -/
def recordMovedCard : Claim7 := { stood := { row := recordMovedRow, standIns := [], harness := (true, "a32d5490ba0c15878be1a575147db49a8f9ad71b2dfc8a1fef2a41d63f3c981b"), looks := true }, kinds := [], alts := [], laidByText := true, laidKinds := [.data, .pinned], laidTests := true, laidLooks := .later }
def RecordMovedCardSaid : Prop := Claim7.holds Tryd.pinned (.plain (OpenSpec.ofChange recordMovedSpec)) recordMovedCard

/-- THE TIED CARD OF 'dioramalaw13.RecordGets'. -/
def recordGetsCard : Claim7 := { stood := { row := recordGetsRow, standIns := [], harness := (true, "a32d5490ba0c15878be1a575147db49a8f9ad71b2dfc8a1fef2a41d63f3c981b"), looks := true }, kinds := [], alts := [], laidByText := true, laidKinds := [.data, .pinned], laidTests := true, laidLooks := .later }
def RecordGetsCardSaid : Prop := Claim7.holds Tryd.pinned (.plain (OpenSpec.ofChange recordGetsSpec)) recordGetsCard

/-- THE TIED CARD OF 'dioramalaw13.RecordBack'. -/
def recordBackCard : Claim7 := { stood := { row := recordBackRow, standIns := [], harness := (true, "a32d5490ba0c15878be1a575147db49a8f9ad71b2dfc8a1fef2a41d63f3c981b"), looks := true }, kinds := [], alts := [], laidByText := true, laidKinds := [.data, .pinned], laidTests := true, laidLooks := .later }
def RecordBackCardSaid : Prop := Claim7.holds Tryd.pinned (.plain (OpenSpec.ofChange recordBackSpec)) recordBackCard

/-- THE TIED CARD OF 'dioramalaw13.RecordOne'. -/
def recordOneCard : Claim7 := { stood := { row := recordOneRow, standIns := [], harness := (true, "a32d5490ba0c15878be1a575147db49a8f9ad71b2dfc8a1fef2a41d63f3c981b"), looks := true }, kinds := [], alts := [], laidByText := true, laidKinds := [.data, .pinned], laidTests := true, laidLooks := .later }
def RecordOneCardSaid : Prop := Claim7.holds Tryd.pinned (.plain (OpenSpec.ofChange recordOneSpec)) recordOneCard

/-- THE TIED CARD OF 'dioramalaw13.RecordTable'. -/
def recordTableCard : Claim7 := { stood := { row := recordTableRow, standIns := [], harness := (true, "a32d5490ba0c15878be1a575147db49a8f9ad71b2dfc8a1fef2a41d63f3c981b"), looks := true }, kinds := [], alts := [], laidByText := true, laidKinds := [.data, .pinned], laidTests := true, laidLooks := .later }
def RecordTableCardSaid : Prop := Claim7.holds Tryd.pinned (.plain (OpenSpec.ofChange recordTableSpec)) recordTableCard

/-- THE TIED CARD OF 'dioramalaw12.LimitCanon'. -/
def limitCanonCard : Claim7 := { stood := { row := limitCanonRow, standIns := [], harness := (true, "a32d5490ba0c15878be1a575147db49a8f9ad71b2dfc8a1fef2a41d63f3c981b"), looks := true }, kinds := [], alts := [], laidByText := true, laidKinds := [.data, .pinned], laidTests := true, laidLooks := .later }
def LimitCanonCardSaid : Prop := Claim7.holds Tryd.pinned (.plain (OpenSpec.ofChange limitCanonSpec)) limitCanonCard

/-- THE TIED CARD OF 'dioramalaw16.OldValid'. -/
def oldValidCard : Claim7 := { stood := { row := oldValidRow, standIns := [], harness := (true, "a32d5490ba0c15878be1a575147db49a8f9ad71b2dfc8a1fef2a41d63f3c981b"), looks := true }, kinds := [], alts := [], laidByText := true, laidKinds := [.data, .pinned], laidTests := true, laidLooks := .later }
def OldValidCardSaid : Prop := Claim7.holds Tryd.pinned (.plain (OpenSpec.ofChange oldValidSpec)) oldValidCard

/-- THE TIED CARD OF 'dioramalaw16.OldFlat'. -/
def oldFlatCard : Claim7 := { stood := { row := oldFlatRow, standIns := [], harness := (true, "a32d5490ba0c15878be1a575147db49a8f9ad71b2dfc8a1fef2a41d63f3c981b"), looks := true }, kinds := [], alts := [], laidByText := true, laidKinds := [.data, .pinned], laidTests := true, laidLooks := .later }
def OldFlatCardSaid : Prop := Claim7.holds Tryd.pinned (.plain (OpenSpec.ofChange oldFlatSpec)) oldFlatCard

/-- THE TIED CARD OF 'dioramalaw16.OldCanon'. -/
def oldCanonCard : Claim7 := { stood := { row := oldCanonRow, standIns := [], harness := (true, "a32d5490ba0c15878be1a575147db49a8f9ad71b2dfc8a1fef2a41d63f3c981b"), looks := true }, kinds := [], alts := [], laidByText := true, laidKinds := [.data, .pinned], laidTests := true, laidLooks := .later }
def OldCanonCardSaid : Prop := Claim7.holds Tryd.pinned (.plain (OpenSpec.ofChange oldCanonSpec)) oldCanonCard

/-- THE TIED CARD OF 'dioramalaw16.OldMeasure'. -/
def oldMeasureCard : Claim7 := { stood := { row := oldMeasureRow, standIns := [], harness := (true, "a32d5490ba0c15878be1a575147db49a8f9ad71b2dfc8a1fef2a41d63f3c981b"), looks := true }, kinds := [], alts := [], laidByText := true, laidKinds := [.data, .pinned], laidTests := true, laidLooks := .later }
def OldMeasureCardSaid : Prop := Claim7.holds Tryd.pinned (.plain (OpenSpec.ofChange oldMeasureSpec)) oldMeasureCard

/-- THE TIED CARD OF 'dioramalaw16.OldForward'. -/
def oldForwardCard : Claim7 := { stood := { row := oldForwardRow, standIns := [], harness := (true, "a32d5490ba0c15878be1a575147db49a8f9ad71b2dfc8a1fef2a41d63f3c981b"), looks := true }, kinds := [], alts := [], laidByText := true, laidKinds := [.data, .pinned], laidTests := true, laidLooks := .later }
def OldForwardCardSaid : Prop := Claim7.holds Tryd.pinned (.plain (OpenSpec.ofChange oldForwardSpec)) oldForwardCard

/-- THE SECOND FORM's CARD OF 'dioramalaw08.FieldLeast'. -/
def fieldLeastUptoCard : Claim7 := { stood := { row := fieldLeastUptoRow, standIns := [], harness := (true, "a32d5490ba0c15878be1a575147db49a8f9ad71b2dfc8a1fef2a41d63f3c981b"), looks := true }, kinds := [], alts := [], laidByText := true, laidKinds := [.data, .pinned], laidTests := true, laidLooks := .later }
def FieldLeastUptoCardSaid : Prop := Claim7.holds Tryd.pinned (.plain (OpenSpec.upto fieldLeastSpec)) fieldLeastUptoCard

/-- THE SECOND FORM's CARD OF 'dioramalaw06.StrtabPuts'. -/
def strtabPutsUptoCard : Claim7 := { stood := { row := strtabPutsUptoRow, standIns := [], harness := (true, "a32d5490ba0c15878be1a575147db49a8f9ad71b2dfc8a1fef2a41d63f3c981b"), looks := true }, kinds := [], alts := [], laidByText := true, laidKinds := [.data, .pinned], laidTests := true, laidLooks := .later }
def StrtabPutsUptoCardSaid : Prop := Claim7.holds Tryd.pinned (.plain (OpenSpec.upto strtabPutsSpec)) strtabPutsUptoCard

/-- THE SECOND FORM's CARD OF 'dioramalaw06.StrtabGets'. -/
def strtabGetsUptoCard : Claim7 := { stood := { row := strtabGetsUptoRow, standIns := [], harness := (true, "a32d5490ba0c15878be1a575147db49a8f9ad71b2dfc8a1fef2a41d63f3c981b"), looks := true }, kinds := [], alts := [], laidByText := true, laidKinds := [.data, .pinned], laidTests := true, laidLooks := .later }
def StrtabGetsUptoCardSaid : Prop := Claim7.holds Tryd.pinned (.plain (OpenSpec.upto strtabGetsSpec)) strtabGetsUptoCard

/-- THE SECOND FORM's CARD OF 'dioramalaw06.StrtabBack'. -/
def strtabBackUptoCard : Claim7 := { stood := { row := strtabBackUptoRow, standIns := [], harness := (true, "a32d5490ba0c15878be1a575147db49a8f9ad71b2dfc8a1fef2a41d63f3c981b"), looks := true }, kinds := [], alts := [], laidByText := true, laidKinds := [.data, .pinned], laidTests := true, laidLooks := .later }
def StrtabBackUptoCardSaid : Prop := Claim7.holds Tryd.pinned (.plain (OpenSpec.upto strtabBackSpec)) strtabBackUptoCard

/-- THE SECOND FORM's CARD OF 'dioramalaw06.StrtabOne'. -/
def strtabOneUptoCard : Claim7 := { stood := { row := strtabOneUptoRow, standIns := [], harness := (true, "a32d5490ba0c15878be1a575147db49a8f9ad71b2dfc8a1fef2a41d63f3c981b"), looks := true }, kinds := [], alts := [], laidByText := true, laidKinds := [.data, .pinned], laidTests := true, laidLooks := .later }
def StrtabOneUptoCardSaid : Prop := Claim7.holds Tryd.pinned (.plain (OpenSpec.upto strtabOneSpec)) strtabOneUptoCard

/-- THE SECOND FORM's CARD OF 'dioramalaw06.StrtabAgain'. -/
def strtabAgainUptoCard : Claim7 := { stood := { row := strtabAgainUptoRow, standIns := [], harness := (true, "a32d5490ba0c15878be1a575147db49a8f9ad71b2dfc8a1fef2a41d63f3c981b"), looks := true }, kinds := [], alts := [], laidByText := true, laidKinds := [.data, .pinned], laidTests := true, laidLooks := .later }
def StrtabAgainUptoCardSaid : Prop := Claim7.holds Tryd.pinned (.plain (OpenSpec.upto strtabAgainSpec)) strtabAgainUptoCard

/-- THE SECOND FORM's CARD OF 'dioramalaw12.LimitValid'. -/
def limitValidUptoCard : Claim7 := { stood := { row := limitValidUptoRow, standIns := [], harness := (true, "a32d5490ba0c15878be1a575147db49a8f9ad71b2dfc8a1fef2a41d63f3c981b"), looks := true }, kinds := [], alts := [], laidByText := true, laidKinds := [.data, .pinned], laidTests := true, laidLooks := .later }
def LimitValidUptoCardSaid : Prop := Claim7.holds Tryd.pinned (.plain (OpenSpec.upto limitValidSpec)) limitValidUptoCard

/-- THE SECOND FORM's CARD OF 'dioramalaw12.LimitMeasures'. -/
def limitMeasuresUptoCard : Claim7 := { stood := { row := limitMeasuresUptoRow, standIns := [], harness := (true, "a32d5490ba0c15878be1a575147db49a8f9ad71b2dfc8a1fef2a41d63f3c981b"), looks := true }, kinds := [], alts := [], laidByText := true, laidKinds := [.data, .pinned], laidTests := true, laidLooks := .later }
def LimitMeasuresUptoCardSaid : Prop := Claim7.holds Tryd.pinned (.plain (OpenSpec.upto limitMeasuresSpec)) limitMeasuresUptoCard

/-- THE SECOND FORM's CARD OF 'dioramalaw12.LimitGrows'. -/
def limitGrowsUptoCard : Claim7 := { stood := { row := limitGrowsUptoRow, standIns := [], harness := (true, "a32d5490ba0c15878be1a575147db49a8f9ad71b2dfc8a1fef2a41d63f3c981b"), looks := true }, kinds := [], alts := [], laidByText := true, laidKinds := [.data, .pinned], laidTests := true, laidLooks := .later }
def LimitGrowsUptoCardSaid : Prop := Claim7.holds Tryd.pinned (.plain (OpenSpec.upto limitGrowsSpec)) limitGrowsUptoCard

/-- THE SECOND FORM's CARD OF 'dioramalaw12.LimitOrder'. -/
def limitOrderUptoCard : Claim7 := { stood := { row := limitOrderUptoRow, standIns := [], harness := (true, "a32d5490ba0c15878be1a575147db49a8f9ad71b2dfc8a1fef2a41d63f3c981b"), looks := true }, kinds := [], alts := [], laidByText := true, laidKinds := [.data, .pinned], laidTests := true, laidLooks := .later }
def LimitOrderUptoCardSaid : Prop := Claim7.holds Tryd.pinned (.plain (OpenSpec.upto limitOrderSpec)) limitOrderUptoCard

/-- THE SECOND FORM's CARD OF 'dioramalaw13.RecordPuts'. -/
def recordPutsUptoCard : Claim7 := { stood := { row := recordPutsUptoRow, standIns := [], harness := (true, "a32d5490ba0c15878be1a575147db49a8f9ad71b2dfc8a1fef2a41d63f3c981b"), looks := true }, kinds := [], alts := [], laidByText := true, laidKinds := [.data, .pinned], laidTests := true, laidLooks := .later }
def RecordPutsUptoCardSaid : Prop := Claim7.holds Tryd.pinned (.plain (OpenSpec.upto recordPutsSpec)) recordPutsUptoCard

/-- THE SECOND FORM's CARD OF 'dioramalaw13.RecordMoved'. -/
def recordMovedUptoCard : Claim7 := { stood := { row := recordMovedUptoRow, standIns := [], harness := (true, "a32d5490ba0c15878be1a575147db49a8f9ad71b2dfc8a1fef2a41d63f3c981b"), looks := true }, kinds := [], alts := [], laidByText := true, laidKinds := [.data, .pinned], laidTests := true, laidLooks := .later }
def RecordMovedUptoCardSaid : Prop := Claim7.holds Tryd.pinned (.plain (OpenSpec.upto recordMovedSpec)) recordMovedUptoCard

/-- THE SECOND FORM's CARD OF 'dioramalaw13.RecordGets'. -/
def recordGetsUptoCard : Claim7 := { stood := { row := recordGetsUptoRow, standIns := [], harness := (true, "a32d5490ba0c15878be1a575147db49a8f9ad71b2dfc8a1fef2a41d63f3c981b"), looks := true }, kinds := [], alts := [], laidByText := true, laidKinds := [.data, .pinned], laidTests := true, laidLooks := .later }
def RecordGetsUptoCardSaid : Prop := Claim7.holds Tryd.pinned (.plain (OpenSpec.upto recordGetsSpec)) recordGetsUptoCard

/-- THE SECOND FORM's CARD OF 'dioramalaw13.RecordBack'. -/
def recordBackUptoCard : Claim7 := { stood := { row := recordBackUptoRow, standIns := [], harness := (true, "a32d5490ba0c15878be1a575147db49a8f9ad71b2dfc8a1fef2a41d63f3c981b"), looks := true }, kinds := [], alts := [], laidByText := true, laidKinds := [.data, .pinned], laidTests := true, laidLooks := .later }
def RecordBackUptoCardSaid : Prop := Claim7.holds Tryd.pinned (.plain (OpenSpec.upto recordBackSpec)) recordBackUptoCard

/-- THE SECOND FORM's CARD OF 'dioramalaw13.RecordOne'. -/
def recordOneUptoCard : Claim7 := { stood := { row := recordOneUptoRow, standIns := [], harness := (true, "a32d5490ba0c15878be1a575147db49a8f9ad71b2dfc8a1fef2a41d63f3c981b"), looks := true }, kinds := [], alts := [], laidByText := true, laidKinds := [.data, .pinned], laidTests := true, laidLooks := .later }
def RecordOneUptoCardSaid : Prop := Claim7.holds Tryd.pinned (.plain (OpenSpec.upto recordOneSpec)) recordOneUptoCard

/-- THE SECOND FORM's CARD OF 'dioramalaw13.RecordTable'. -/
def recordTableUptoCard : Claim7 := { stood := { row := recordTableUptoRow, standIns := [], harness := (true, "a32d5490ba0c15878be1a575147db49a8f9ad71b2dfc8a1fef2a41d63f3c981b"), looks := true }, kinds := [], alts := [], laidByText := true, laidKinds := [.data, .pinned], laidTests := true, laidLooks := .later }
def RecordTableUptoCardSaid : Prop := Claim7.holds Tryd.pinned (.plain (OpenSpec.upto recordTableSpec)) recordTableUptoCard

/-- THE SECOND FORM's CARD OF 'dioramalaw12.LimitCanon'. -/
def limitCanonUptoCard : Claim7 := { stood := { row := limitCanonUptoRow, standIns := [], harness := (true, "a32d5490ba0c15878be1a575147db49a8f9ad71b2dfc8a1fef2a41d63f3c981b"), looks := true }, kinds := [], alts := [], laidByText := true, laidKinds := [.data, .pinned], laidTests := true, laidLooks := .later }
def LimitCanonUptoCardSaid : Prop := Claim7.holds Tryd.pinned (.plain (OpenSpec.upto limitCanonSpec)) limitCanonUptoCard

/-- THE SECOND FORM's CARD OF 'dioramalaw16.OldValid'. -/
def oldValidUptoCard : Claim7 := { stood := { row := oldValidUptoRow, standIns := [], harness := (true, "a32d5490ba0c15878be1a575147db49a8f9ad71b2dfc8a1fef2a41d63f3c981b"), looks := true }, kinds := [], alts := [], laidByText := true, laidKinds := [.data, .pinned], laidTests := true, laidLooks := .later }
def OldValidUptoCardSaid : Prop := Claim7.holds Tryd.pinned (.plain (OpenSpec.upto oldValidSpec)) oldValidUptoCard

/-- THE SECOND FORM's CARD OF 'dioramalaw16.OldFlat'. -/
def oldFlatUptoCard : Claim7 := { stood := { row := oldFlatUptoRow, standIns := [], harness := (true, "a32d5490ba0c15878be1a575147db49a8f9ad71b2dfc8a1fef2a41d63f3c981b"), looks := true }, kinds := [], alts := [], laidByText := true, laidKinds := [.data, .pinned], laidTests := true, laidLooks := .later }
def OldFlatUptoCardSaid : Prop := Claim7.holds Tryd.pinned (.plain (OpenSpec.upto oldFlatSpec)) oldFlatUptoCard

/-- THE SECOND FORM's CARD OF 'dioramalaw16.OldCanon'. -/
def oldCanonUptoCard : Claim7 := { stood := { row := oldCanonUptoRow, standIns := [], harness := (true, "a32d5490ba0c15878be1a575147db49a8f9ad71b2dfc8a1fef2a41d63f3c981b"), looks := true }, kinds := [], alts := [], laidByText := true, laidKinds := [.data, .pinned], laidTests := true, laidLooks := .later }
def OldCanonUptoCardSaid : Prop := Claim7.holds Tryd.pinned (.plain (OpenSpec.upto oldCanonSpec)) oldCanonUptoCard

/-- THE SECOND FORM's CARD OF 'dioramalaw16.OldMeasure'. -/
def oldMeasureUptoCard : Claim7 := { stood := { row := oldMeasureUptoRow, standIns := [], harness := (true, "a32d5490ba0c15878be1a575147db49a8f9ad71b2dfc8a1fef2a41d63f3c981b"), looks := true }, kinds := [], alts := [], laidByText := true, laidKinds := [.data, .pinned], laidTests := true, laidLooks := .later }
def OldMeasureUptoCardSaid : Prop := Claim7.holds Tryd.pinned (.plain (OpenSpec.upto oldMeasureSpec)) oldMeasureUptoCard

/-- THE SECOND FORM's CARD OF 'dioramalaw16.OldForward'. -/
def oldForwardUptoCard : Claim7 := { stood := { row := oldForwardUptoRow, standIns := [], harness := (true, "a32d5490ba0c15878be1a575147db49a8f9ad71b2dfc8a1fef2a41d63f3c981b"), looks := true }, kinds := [], alts := [], laidByText := true, laidKinds := [.data, .pinned], laidTests := true, laidLooks := .later }
def OldForwardUptoCardSaid : Prop := Claim7.holds Tryd.pinned (.plain (OpenSpec.upto oldForwardSpec)) oldForwardUptoCard
end Rows
end Go.Proofs.YtdgjgekefpfgiaaDoor
