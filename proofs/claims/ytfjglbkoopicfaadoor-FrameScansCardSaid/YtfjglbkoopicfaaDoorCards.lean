/-
  DERIVED. GIVEN WITH THE SEED: THE CARDS: each row of YtfjglbkoopicfaaDoorRows.lean that lists a variable, with what it lists TIED to the program's text (the seventh form; the later family's looks); each row that meets fmt, with fmt's text TOLD by the authors' own Lean function (tested against real Go, not proved from fmt's source: count such statements apart). THE CARD IS WHAT COUNTS. Prove the row's statement (the work); the ties are given (YtfjglbkoopicfaaDoorTie.lean); close each card by the builder's one call (the guide's Derived/Test/ToyasCard.lean, 'card_holds'). Laid BY PROGRAM, IN A SANDBOX (cutbox-door.mjs). By AI agents, Wed Nov 11 2026. No macro, syntax, notation, axiom, sorry.
-/
import Derived.Test.YtfjglbkoopicfaaDoorRows
import GoSem.ClaimSeven
namespace Go.Proofs.YtfjglbkoopicfaaDoor
namespace Rows

/-- THE TIED CARD OF 'voyagelaw11.FrameScans'. -/
def frameScansCard : Claim7 := { stood := { row := frameScansRow, standIns := [], harness := (true, "0885feea867b6898449d328ec81de1da048966cabe4d4f01d6ee337fd477fae1"), looks := true }, kinds := [], alts := [], laidByText := true, laidKinds := [.sentinel], laidTests := true, laidLooks := .later }
def FrameScansCardSaid : Prop := Claim7.holds Tryd.pinned (.plain (OpenSpec.ofChange frameScansSpec)) frameScansCard

/-- THE TIED CARD OF 'voyagelaw11.FrameBack'. -/
def frameBackCard : Claim7 := { stood := { row := frameBackRow, standIns := [], harness := (true, "0885feea867b6898449d328ec81de1da048966cabe4d4f01d6ee337fd477fae1"), looks := true }, kinds := [], alts := [], laidByText := true, laidKinds := [.sentinel], laidTests := true, laidLooks := .later }
def FrameBackCardSaid : Prop := Claim7.holds Tryd.pinned (.plain (OpenSpec.ofChange frameBackSpec)) frameBackCard

/-- THE TIED CARD OF 'voyagelaw11.FrameBursts'. -/
def frameBurstsCard : Claim7 := { stood := { row := frameBurstsRow, standIns := [], harness := (true, "0885feea867b6898449d328ec81de1da048966cabe4d4f01d6ee337fd477fae1"), looks := true }, kinds := [], alts := [], laidByText := true, laidKinds := [.sentinel], laidTests := true, laidLooks := .later }
def FrameBurstsCardSaid : Prop := Claim7.holds Tryd.pinned (.plain (OpenSpec.ofChange frameBurstsSpec)) frameBurstsCard

/-- THE TIED CARD OF 'voyagelaw11.FrameSums'. -/
def frameSumsCard : Claim7 := { stood := { row := frameSumsRow, standIns := [], harness := (true, "0885feea867b6898449d328ec81de1da048966cabe4d4f01d6ee337fd477fae1"), looks := true }, kinds := [], alts := [], laidByText := true, laidKinds := [.sentinel], laidTests := true, laidLooks := .later }
def FrameSumsCardSaid : Prop := Claim7.holds Tryd.pinned (.plain (OpenSpec.ofChange frameSumsSpec)) frameSumsCard

/-- THE TIED CARD OF 'voyagelaw06.StampReads'. -/
def stampReadsCard : Claim7 := { stood := { row := stampReadsRow, standIns := [], harness := (true, "0885feea867b6898449d328ec81de1da048966cabe4d4f01d6ee337fd477fae1"), looks := true }, kinds := [], alts := [], laidByText := true, laidKinds := [.data, .data, .data, .data, .sentinel, .pinned], laidTests := true, laidLooks := .later }
def StampReadsCardSaid : Prop := Claim7.holds Tryd.pinned (.plain (OpenSpec.ofChange stampReadsSpec)) stampReadsCard

/-- THE TIED CARD OF 'voyagelaw06.StampTells'. -/
def stampTellsCard : Claim7 := { stood := { row := stampTellsRow, standIns := [], harness := (true, "0885feea867b6898449d328ec81de1da048966cabe4d4f01d6ee337fd477fae1"), looks := true }, kinds := [], alts := [], laidByText := true, laidKinds := [.data, .data, .data, .data, .sentinel, .pinned], laidTests := true, laidLooks := .later }
def StampTellsCardSaid : Prop := Claim7.holds Tryd.pinned (.plain (OpenSpec.ofChange stampTellsSpec)) stampTellsCard

/-- THE TIED CARD OF 'voyagelaw06.StampCmps'. -/
def stampCmpsCard : Claim7 := { stood := { row := stampCmpsRow, standIns := [], harness := (true, "0885feea867b6898449d328ec81de1da048966cabe4d4f01d6ee337fd477fae1"), looks := true }, kinds := [], alts := [], laidByText := true, laidKinds := [.data, .data, .data, .data, .sentinel, .pinned], laidTests := true, laidLooks := .later }
def StampCmpsCardSaid : Prop := Claim7.holds Tryd.pinned (.plain (OpenSpec.ofChange stampCmpsSpec)) stampCmpsCard

/-- THE TIED CARD OF 'voyagelaw06.StampBack'. -/
def stampBackCard : Claim7 := { stood := { row := stampBackRow, standIns := [], harness := (true, "0885feea867b6898449d328ec81de1da048966cabe4d4f01d6ee337fd477fae1"), looks := true }, kinds := [], alts := [], laidByText := true, laidKinds := [.data, .data, .data, .data, .sentinel, .pinned], laidTests := true, laidLooks := .later }
def StampBackCardSaid : Prop := Claim7.holds Tryd.pinned (.plain (OpenSpec.ofChange stampBackSpec)) stampBackCard

/-- THE TIED CARD OF 'voyagelaw06.StampOrders'. -/
def stampOrdersCard : Claim7 := { stood := { row := stampOrdersRow, standIns := [], harness := (true, "0885feea867b6898449d328ec81de1da048966cabe4d4f01d6ee337fd477fae1"), looks := true }, kinds := [], alts := [], laidByText := true, laidKinds := [.data, .data, .data, .data, .sentinel, .pinned], laidTests := true, laidLooks := .later }
def StampOrdersCardSaid : Prop := Claim7.holds Tryd.pinned (.plain (OpenSpec.ofChange stampOrdersSpec)) stampOrdersCard

/-- THE TIED CARD OF 'voyagelaw06.StampOffsets'. -/
def stampOffsetsCard : Claim7 := { stood := { row := stampOffsetsRow, standIns := [], harness := (true, "0885feea867b6898449d328ec81de1da048966cabe4d4f01d6ee337fd477fae1"), looks := true }, kinds := [], alts := [], laidByText := true, laidKinds := [.data, .data, .data, .data, .sentinel, .pinned], laidTests := true, laidLooks := .later }
def StampOffsetsCardSaid : Prop := Claim7.holds Tryd.pinned (.plain (OpenSpec.ofChange stampOffsetsSpec)) stampOffsetsCard

/-- THE TIED CARD OF 'voyagelaw06.StampDays'. -/
def stampDaysCard : Claim7 := { stood := { row := stampDaysRow, standIns := [], harness := (true, "0885feea867b6898449d328ec81de1da048966cabe4d4f01d6ee337fd477fae1"), looks := true }, kinds := [], alts := [], laidByText := true, laidKinds := [.data, .data, .data, .data, .sentinel, .pinned], laidTests := true, laidLooks := .later }
def StampDaysCardSaid : Prop := Claim7.holds Tryd.pinned (.plain (OpenSpec.ofChange stampDaysSpec)) stampDaysCard

/-- THE TIED CARD OF 'voyagelaw06.StampNext'. -/
def stampNextCard : Claim7 := { stood := { row := stampNextRow, standIns := [], harness := (true, "0885feea867b6898449d328ec81de1da048966cabe4d4f01d6ee337fd477fae1"), looks := true }, kinds := [], alts := [], laidByText := true, laidKinds := [.data, .data, .data, .data, .sentinel, .pinned], laidTests := true, laidLooks := .later }
def StampNextCardSaid : Prop := Claim7.holds Tryd.pinned (.plain (OpenSpec.ofChange stampNextSpec)) stampNextCard

/-- THE SECOND FORM's CARD OF 'voyagelaw11.FrameScans'. -/
def frameScansUptoCard : Claim7 := { stood := { row := frameScansUptoRow, standIns := [], harness := (true, "0885feea867b6898449d328ec81de1da048966cabe4d4f01d6ee337fd477fae1"), looks := true }, kinds := [], alts := [], laidByText := true, laidKinds := [.sentinel], laidTests := true, laidLooks := .later }
def FrameScansUptoCardSaid : Prop := Claim7.holds Tryd.pinned (.plain (OpenSpec.upto frameScansSpec)) frameScansUptoCard

/-- THE SECOND FORM's CARD OF 'voyagelaw11.FrameBack'. -/
def frameBackUptoCard : Claim7 := { stood := { row := frameBackUptoRow, standIns := [], harness := (true, "0885feea867b6898449d328ec81de1da048966cabe4d4f01d6ee337fd477fae1"), looks := true }, kinds := [], alts := [], laidByText := true, laidKinds := [.sentinel], laidTests := true, laidLooks := .later }
def FrameBackUptoCardSaid : Prop := Claim7.holds Tryd.pinned (.plain (OpenSpec.upto frameBackSpec)) frameBackUptoCard

/-- THE SECOND FORM's CARD OF 'voyagelaw11.FrameBursts'. -/
def frameBurstsUptoCard : Claim7 := { stood := { row := frameBurstsUptoRow, standIns := [], harness := (true, "0885feea867b6898449d328ec81de1da048966cabe4d4f01d6ee337fd477fae1"), looks := true }, kinds := [], alts := [], laidByText := true, laidKinds := [.sentinel], laidTests := true, laidLooks := .later }
def FrameBurstsUptoCardSaid : Prop := Claim7.holds Tryd.pinned (.plain (OpenSpec.upto frameBurstsSpec)) frameBurstsUptoCard

/-- THE SECOND FORM's CARD OF 'voyagelaw11.FrameSums'. -/
def frameSumsUptoCard : Claim7 := { stood := { row := frameSumsUptoRow, standIns := [], harness := (true, "0885feea867b6898449d328ec81de1da048966cabe4d4f01d6ee337fd477fae1"), looks := true }, kinds := [], alts := [], laidByText := true, laidKinds := [.sentinel], laidTests := true, laidLooks := .later }
def FrameSumsUptoCardSaid : Prop := Claim7.holds Tryd.pinned (.plain (OpenSpec.upto frameSumsSpec)) frameSumsUptoCard

/-- THE SECOND FORM's CARD OF 'voyagelaw06.StampReads'. -/
def stampReadsUptoCard : Claim7 := { stood := { row := stampReadsUptoRow, standIns := [], harness := (true, "0885feea867b6898449d328ec81de1da048966cabe4d4f01d6ee337fd477fae1"), looks := true }, kinds := [], alts := [], laidByText := true, laidKinds := [.data, .data, .data, .data, .sentinel, .pinned], laidTests := true, laidLooks := .later }
def StampReadsUptoCardSaid : Prop := Claim7.holds Tryd.pinned (.plain (OpenSpec.upto stampReadsSpec)) stampReadsUptoCard

/-- THE SECOND FORM's CARD OF 'voyagelaw06.StampTells'. -/
def stampTellsUptoCard : Claim7 := { stood := { row := stampTellsUptoRow, standIns := [], harness := (true, "0885feea867b6898449d328ec81de1da048966cabe4d4f01d6ee337fd477fae1"), looks := true }, kinds := [], alts := [], laidByText := true, laidKinds := [.data, .data, .data, .data, .sentinel, .pinned], laidTests := true, laidLooks := .later }
def StampTellsUptoCardSaid : Prop := Claim7.holds Tryd.pinned (.plain (OpenSpec.upto stampTellsSpec)) stampTellsUptoCard

/-- THE SECOND FORM's CARD OF 'voyagelaw06.StampCmps'. -/
def stampCmpsUptoCard : Claim7 := { stood := { row := stampCmpsUptoRow, standIns := [], harness := (true, "0885feea867b6898449d328ec81de1da048966cabe4d4f01d6ee337fd477fae1"), looks := true }, kinds := [], alts := [], laidByText := true, laidKinds := [.data, .data, .data, .data, .sentinel, .pinned], laidTests := true, laidLooks := .later }
def StampCmpsUptoCardSaid : Prop := Claim7.holds Tryd.pinned (.plain (OpenSpec.upto stampCmpsSpec)) stampCmpsUptoCard

/-- THE SECOND FORM's CARD OF 'voyagelaw06.StampBack'. -/
def stampBackUptoCard : Claim7 := { stood := { row := stampBackUptoRow, standIns := [], harness := (true, "0885feea867b6898449d328ec81de1da048966cabe4d4f01d6ee337fd477fae1"), looks := true }, kinds := [], alts := [], laidByText := true, laidKinds := [.data, .data, .data, .data, .sentinel, .pinned], laidTests := true, laidLooks := .later }
def StampBackUptoCardSaid : Prop := Claim7.holds Tryd.pinned (.plain (OpenSpec.upto stampBackSpec)) stampBackUptoCard

/-- THE SECOND FORM's CARD OF 'voyagelaw06.StampOrders'. -/
def stampOrdersUptoCard : Claim7 := { stood := { row := stampOrdersUptoRow, standIns := [], harness := (true, "0885feea867b6898449d328ec81de1da048966cabe4d4f01d6ee337fd477fae1"), looks := true }, kinds := [], alts := [], laidByText := true, laidKinds := [.data, .data, .data, .data, .sentinel, .pinned], laidTests := true, laidLooks := .later }
def StampOrdersUptoCardSaid : Prop := Claim7.holds Tryd.pinned (.plain (OpenSpec.upto stampOrdersSpec)) stampOrdersUptoCard

/-- THE SECOND FORM's CARD OF 'voyagelaw06.StampOffsets'. -/
def stampOffsetsUptoCard : Claim7 := { stood := { row := stampOffsetsUptoRow, standIns := [], harness := (true, "0885feea867b6898449d328ec81de1da048966cabe4d4f01d6ee337fd477fae1"), looks := true }, kinds := [], alts := [], laidByText := true, laidKinds := [.data, .data, .data, .data, .sentinel, .pinned], laidTests := true, laidLooks := .later }
def StampOffsetsUptoCardSaid : Prop := Claim7.holds Tryd.pinned (.plain (OpenSpec.upto stampOffsetsSpec)) stampOffsetsUptoCard

/-- THE SECOND FORM's CARD OF 'voyagelaw06.StampDays'. -/
def stampDaysUptoCard : Claim7 := { stood := { row := stampDaysUptoRow, standIns := [], harness := (true, "0885feea867b6898449d328ec81de1da048966cabe4d4f01d6ee337fd477fae1"), looks := true }, kinds := [], alts := [], laidByText := true, laidKinds := [.data, .data, .data, .data, .sentinel, .pinned], laidTests := true, laidLooks := .later }
def StampDaysUptoCardSaid : Prop := Claim7.holds Tryd.pinned (.plain (OpenSpec.upto stampDaysSpec)) stampDaysUptoCard

/-- THE SECOND FORM's CARD OF 'voyagelaw06.StampNext'. -/
def stampNextUptoCard : Claim7 := { stood := { row := stampNextUptoRow, standIns := [], harness := (true, "0885feea867b6898449d328ec81de1da048966cabe4d4f01d6ee337fd477fae1"), looks := true }, kinds := [], alts := [], laidByText := true, laidKinds := [.data, .data, .data, .data, .sentinel, .pinned], laidTests := true, laidLooks := .later }
def StampNextUptoCardSaid : Prop := Claim7.holds Tryd.pinned (.plain (OpenSpec.upto stampNextSpec)) stampNextUptoCard
end Rows
end Go.Proofs.YtfjglbkoopicfaaDoor
