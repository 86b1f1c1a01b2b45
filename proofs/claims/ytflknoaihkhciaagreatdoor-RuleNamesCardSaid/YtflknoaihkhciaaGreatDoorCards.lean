/-
  DERIVED. GIVEN WITH THE SEED: THE CARDS: each row of YtflknoaihkhciaaGreatDoorRows.lean that lists a variable, with what it lists TIED to the program's text (the seventh form; the later family's looks); each row that meets fmt, with fmt's text TOLD by the authors' own Lean function (tested against real Go, not proved from fmt's source: count such statements apart). THE CARD IS WHAT COUNTS. Prove the row's statement (the work); the ties are given (YtflknoaihkhciaaGreatDoorTie.lean); close each card by the builder's one call (the guide's Derived/Test/ToyasCard.lean, 'card_holds'). Laid BY PROGRAM, IN A SANDBOX (cutbox-door.mjs). By AI agents, Wed Nov 11 2026. No macro, syntax, notation, axiom, sorry.
-/
import Derived.Test.YtflknoaihkhciaaGreatDoorRows
import GoSem.ClaimSeven
namespace Go.Proofs.YtflknoaihkhciaaGreatDoor
namespace Rows

/-- THE TIED CARD OF 'voyagelaw01.DecSums'. -/
def decSumsCard : Claim7 := { stood := { row := decSumsRow, standIns := [], harness := (true, "4b477a06f705133efe165fd643aedf704e937fda06b4d290f957b0cc8908525c"), looks := true }, kinds := [], alts := [], laidByText := true, laidKinds := [.data, .data, .data, .data, .sentinel, .sentinel, .sentinel, .sentinel, .pinned], laidTests := true, laidLooks := .later }
def DecSumsCardSaid : Prop := Claim7.holds Tryz.pinned (.plain (OpenSpec.ofChange decSumsSpec)) decSumsCard

/-- THE TIED CARD OF 'voyagelaw07.RuleHolds'. -/
def ruleHoldsCard : Claim7 := { stood := { row := ruleHoldsRow, standIns := [], harness := (true, "4b477a06f705133efe165fd643aedf704e937fda06b4d290f957b0cc8908525c"), looks := true }, kinds := [], alts := [], laidByText := true, laidKinds := [.data, .sentinel, .sentinel, .sentinel, .pinned], laidTests := true, laidLooks := .later }
def RuleHoldsCardSaid : Prop := Claim7.holds Tryz.pinned (.plain (OpenSpec.ofChange ruleHoldsSpec)) ruleHoldsCard

/-- THE TIED CARD OF 'voyagelaw07.RuleNames'. -/
def ruleNamesCard : Claim7 := { stood := { row := ruleNamesRow, standIns := [], harness := (true, "4b477a06f705133efe165fd643aedf704e937fda06b4d290f957b0cc8908525c"), looks := true }, kinds := [], alts := [], laidByText := true, laidKinds := [.data, .sentinel, .sentinel, .sentinel, .pinned], laidTests := true, laidLooks := .later }
def RuleNamesCardSaid : Prop := Claim7.holds Tryz.pinned (.plain (OpenSpec.ofChange ruleNamesSpec)) ruleNamesCard

/-- THE TIED CARD OF 'voyagelaw10.RetryTakes'. -/
def retryTakesCard : Claim7 := { stood := { row := retryTakesRow, standIns := [], harness := (true, "4b477a06f705133efe165fd643aedf704e937fda06b4d290f957b0cc8908525c"), looks := true }, kinds := [], alts := [], laidByText := true, laidKinds := [.data, .data, .data, .data, .sentinel, .sentinel, .pinned], laidTests := true, laidLooks := .later }
def RetryTakesCardSaid : Prop := Claim7.holds Tryz.pinned (.plain (OpenSpec.ofChange retryTakesSpec)) retryTakesCard

/-- THE TIED CARD OF 'voyagelaw10.RetryCatches'. -/
def retryCatchesCard : Claim7 := { stood := { row := retryCatchesRow, standIns := [], harness := (true, "4b477a06f705133efe165fd643aedf704e937fda06b4d290f957b0cc8908525c"), looks := true }, kinds := [], alts := [], laidByText := true, laidKinds := [.data, .data, .data, .data, .sentinel, .sentinel, .pinned], laidTests := true, laidLooks := .later }
def RetryCatchesCardSaid : Prop := Claim7.holds Tryz.pinned (.plain (OpenSpec.ofChange retryCatchesSpec)) retryCatchesCard

/-- THE TIED CARD OF 'voyagelaw01.DecWholes'. -/
def decWholesCard : Claim7 := { stood := { row := decWholesRow, standIns := [], harness := (true, "4b477a06f705133efe165fd643aedf704e937fda06b4d290f957b0cc8908525c"), looks := true }, kinds := [], alts := [], laidByText := true, laidKinds := [.data, .data, .data, .data, .sentinel, .sentinel, .sentinel, .sentinel, .pinned], laidTests := true, laidLooks := .later }
def DecWholesCardSaid : Prop := Claim7.holds Tryz.pinned (.plain (OpenSpec.ofChange decWholesSpec)) decWholesCard

/-- THE TIED CARD OF 'voyagelaw10.RetryCharges'. -/
def retryChargesCard : Claim7 := { stood := { row := retryChargesRow, standIns := [], harness := (true, "4b477a06f705133efe165fd643aedf704e937fda06b4d290f957b0cc8908525c"), looks := true }, kinds := [], alts := [], laidByText := true, laidKinds := [.data, .data, .data, .data, .sentinel, .sentinel, .pinned], laidTests := true, laidLooks := .later }
def RetryChargesCardSaid : Prop := Claim7.holds Tryz.pinned (.plain (OpenSpec.ofChange retryChargesSpec)) retryChargesCard

/-- THE TIED CARD OF 'voyagelaw10.RetryEnds'. -/
def retryEndsCard : Claim7 := { stood := { row := retryEndsRow, standIns := [], harness := (true, "4b477a06f705133efe165fd643aedf704e937fda06b4d290f957b0cc8908525c"), looks := true }, kinds := [], alts := [], laidByText := true, laidKinds := [.data, .data, .data, .data, .sentinel, .sentinel, .pinned], laidTests := true, laidLooks := .later }
def RetryEndsCardSaid : Prop := Claim7.holds Tryz.pinned (.plain (OpenSpec.ofChange retryEndsSpec)) retryEndsCard

/-- THE TIED CARD OF 'voyagelaw01.DecOrder'. -/
def decOrderCard : Claim7 := { stood := { row := decOrderRow, standIns := [], harness := (true, "4b477a06f705133efe165fd643aedf704e937fda06b4d290f957b0cc8908525c"), looks := true }, kinds := [], alts := [], laidByText := true, laidKinds := [.data, .data, .data, .data, .sentinel, .sentinel, .sentinel, .sentinel, .pinned], laidTests := true, laidLooks := .later }
def DecOrderCardSaid : Prop := Claim7.holds Tryz.pinned (.plain (OpenSpec.ofChange decOrderSpec)) decOrderCard

/-- THE TIED CARD OF 'voyagelaw01.DecDelays'. -/
def decDelaysCard : Claim7 := { stood := { row := decDelaysRow, standIns := [], harness := (true, "4b477a06f705133efe165fd643aedf704e937fda06b4d290f957b0cc8908525c"), looks := true }, kinds := [], alts := [], laidByText := true, laidKinds := [.data, .data, .data, .data, .sentinel, .sentinel, .sentinel, .sentinel, .pinned], laidTests := true, laidLooks := .later }
def DecDelaysCardSaid : Prop := Claim7.holds Tryz.pinned (.plain (OpenSpec.ofChange decDelaysSpec)) decDelaysCard

/-- THE TIED CARD OF 'voyagelaw01.DecRises'. -/
def decRisesCard : Claim7 := { stood := { row := decRisesRow, standIns := [], harness := (true, "4b477a06f705133efe165fd643aedf704e937fda06b4d290f957b0cc8908525c"), looks := true }, kinds := [], alts := [], laidByText := true, laidKinds := [.data, .data, .data, .data, .sentinel, .sentinel, .sentinel, .sentinel, .pinned], laidTests := true, laidLooks := .later }
def DecRisesCardSaid : Prop := Claim7.holds Tryz.pinned (.plain (OpenSpec.ofChange decRisesSpec)) decRisesCard

/-- THE SECOND FORM's CARD OF 'voyagelaw01.DecSums'. -/
def decSumsUptoCard : Claim7 := { stood := { row := decSumsUptoRow, standIns := [], harness := (true, "4b477a06f705133efe165fd643aedf704e937fda06b4d290f957b0cc8908525c"), looks := true }, kinds := [], alts := [], laidByText := true, laidKinds := [.data, .data, .data, .data, .sentinel, .sentinel, .sentinel, .sentinel, .pinned], laidTests := true, laidLooks := .later }
def DecSumsUptoCardSaid : Prop := Claim7.holds Tryz.pinned (.plain (OpenSpec.upto decSumsSpec)) decSumsUptoCard

/-- THE SECOND FORM's CARD OF 'voyagelaw07.RuleHolds'. -/
def ruleHoldsUptoCard : Claim7 := { stood := { row := ruleHoldsUptoRow, standIns := [], harness := (true, "4b477a06f705133efe165fd643aedf704e937fda06b4d290f957b0cc8908525c"), looks := true }, kinds := [], alts := [], laidByText := true, laidKinds := [.data, .sentinel, .sentinel, .sentinel, .pinned], laidTests := true, laidLooks := .later }
def RuleHoldsUptoCardSaid : Prop := Claim7.holds Tryz.pinned (.plain (OpenSpec.upto ruleHoldsSpec)) ruleHoldsUptoCard

/-- THE SECOND FORM's CARD OF 'voyagelaw07.RuleNames'. -/
def ruleNamesUptoCard : Claim7 := { stood := { row := ruleNamesUptoRow, standIns := [], harness := (true, "4b477a06f705133efe165fd643aedf704e937fda06b4d290f957b0cc8908525c"), looks := true }, kinds := [], alts := [], laidByText := true, laidKinds := [.data, .sentinel, .sentinel, .sentinel, .pinned], laidTests := true, laidLooks := .later }
def RuleNamesUptoCardSaid : Prop := Claim7.holds Tryz.pinned (.plain (OpenSpec.upto ruleNamesSpec)) ruleNamesUptoCard

/-- THE SECOND FORM's CARD OF 'voyagelaw10.RetryTakes'. -/
def retryTakesUptoCard : Claim7 := { stood := { row := retryTakesUptoRow, standIns := [], harness := (true, "4b477a06f705133efe165fd643aedf704e937fda06b4d290f957b0cc8908525c"), looks := true }, kinds := [], alts := [], laidByText := true, laidKinds := [.data, .data, .data, .data, .sentinel, .sentinel, .pinned], laidTests := true, laidLooks := .later }
def RetryTakesUptoCardSaid : Prop := Claim7.holds Tryz.pinned (.plain (OpenSpec.upto retryTakesSpec)) retryTakesUptoCard

/-- THE SECOND FORM's CARD OF 'voyagelaw10.RetryCatches'. -/
def retryCatchesUptoCard : Claim7 := { stood := { row := retryCatchesUptoRow, standIns := [], harness := (true, "4b477a06f705133efe165fd643aedf704e937fda06b4d290f957b0cc8908525c"), looks := true }, kinds := [], alts := [], laidByText := true, laidKinds := [.data, .data, .data, .data, .sentinel, .sentinel, .pinned], laidTests := true, laidLooks := .later }
def RetryCatchesUptoCardSaid : Prop := Claim7.holds Tryz.pinned (.plain (OpenSpec.upto retryCatchesSpec)) retryCatchesUptoCard

/-- THE SECOND FORM's CARD OF 'voyagelaw01.DecWholes'. -/
def decWholesUptoCard : Claim7 := { stood := { row := decWholesUptoRow, standIns := [], harness := (true, "4b477a06f705133efe165fd643aedf704e937fda06b4d290f957b0cc8908525c"), looks := true }, kinds := [], alts := [], laidByText := true, laidKinds := [.data, .data, .data, .data, .sentinel, .sentinel, .sentinel, .sentinel, .pinned], laidTests := true, laidLooks := .later }
def DecWholesUptoCardSaid : Prop := Claim7.holds Tryz.pinned (.plain (OpenSpec.upto decWholesSpec)) decWholesUptoCard

/-- THE SECOND FORM's CARD OF 'voyagelaw10.RetryCharges'. -/
def retryChargesUptoCard : Claim7 := { stood := { row := retryChargesUptoRow, standIns := [], harness := (true, "4b477a06f705133efe165fd643aedf704e937fda06b4d290f957b0cc8908525c"), looks := true }, kinds := [], alts := [], laidByText := true, laidKinds := [.data, .data, .data, .data, .sentinel, .sentinel, .pinned], laidTests := true, laidLooks := .later }
def RetryChargesUptoCardSaid : Prop := Claim7.holds Tryz.pinned (.plain (OpenSpec.upto retryChargesSpec)) retryChargesUptoCard

/-- THE SECOND FORM's CARD OF 'voyagelaw10.RetryEnds'. -/
def retryEndsUptoCard : Claim7 := { stood := { row := retryEndsUptoRow, standIns := [], harness := (true, "4b477a06f705133efe165fd643aedf704e937fda06b4d290f957b0cc8908525c"), looks := true }, kinds := [], alts := [], laidByText := true, laidKinds := [.data, .data, .data, .data, .sentinel, .sentinel, .pinned], laidTests := true, laidLooks := .later }
def RetryEndsUptoCardSaid : Prop := Claim7.holds Tryz.pinned (.plain (OpenSpec.upto retryEndsSpec)) retryEndsUptoCard

/-- THE SECOND FORM's CARD OF 'voyagelaw01.DecOrder'. -/
def decOrderUptoCard : Claim7 := { stood := { row := decOrderUptoRow, standIns := [], harness := (true, "4b477a06f705133efe165fd643aedf704e937fda06b4d290f957b0cc8908525c"), looks := true }, kinds := [], alts := [], laidByText := true, laidKinds := [.data, .data, .data, .data, .sentinel, .sentinel, .sentinel, .sentinel, .pinned], laidTests := true, laidLooks := .later }
def DecOrderUptoCardSaid : Prop := Claim7.holds Tryz.pinned (.plain (OpenSpec.upto decOrderSpec)) decOrderUptoCard

/-- THE SECOND FORM's CARD OF 'voyagelaw01.DecDelays'. -/
def decDelaysUptoCard : Claim7 := { stood := { row := decDelaysUptoRow, standIns := [], harness := (true, "4b477a06f705133efe165fd643aedf704e937fda06b4d290f957b0cc8908525c"), looks := true }, kinds := [], alts := [], laidByText := true, laidKinds := [.data, .data, .data, .data, .sentinel, .sentinel, .sentinel, .sentinel, .pinned], laidTests := true, laidLooks := .later }
def DecDelaysUptoCardSaid : Prop := Claim7.holds Tryz.pinned (.plain (OpenSpec.upto decDelaysSpec)) decDelaysUptoCard

/-- THE SECOND FORM's CARD OF 'voyagelaw01.DecRises'. -/
def decRisesUptoCard : Claim7 := { stood := { row := decRisesUptoRow, standIns := [], harness := (true, "4b477a06f705133efe165fd643aedf704e937fda06b4d290f957b0cc8908525c"), looks := true }, kinds := [], alts := [], laidByText := true, laidKinds := [.data, .data, .data, .data, .sentinel, .sentinel, .sentinel, .sentinel, .pinned], laidTests := true, laidLooks := .later }
def DecRisesUptoCardSaid : Prop := Claim7.holds Tryz.pinned (.plain (OpenSpec.upto decRisesSpec)) decRisesUptoCard
end Rows
end Go.Proofs.YtflknoaihkhciaaGreatDoor
