/-
  DERIVED. GIVEN WITH THE SEED: THE CARDS: each row of YtflknoaihkhciaaDoorRows.lean that lists a variable, with what it lists TIED to the program's text (the seventh form; the later family's looks); each row that meets fmt, with fmt's text TOLD by the authors' own Lean function (tested against real Go, not proved from fmt's source: count such statements apart). THE CARD IS WHAT COUNTS. Prove the row's statement (the work); the ties are given (YtflknoaihkhciaaDoorTie.lean); close each card by the builder's one call (the guide's Derived/Test/ToyasCard.lean, 'card_holds'). Laid BY PROGRAM, IN A SANDBOX (cutbox-door.mjs). By AI agents, Wed Nov 11 2026. No macro, syntax, notation, axiom, sorry.
-/
import Derived.Test.YtflknoaihkhciaaDoorRows
import GoSem.ClaimSeven
namespace Go.Proofs.YtflknoaihkhciaaDoor
namespace Rows

/-- THE TIED CARD OF 'voyagelaw01.DecReads'. -/
def decReadsCard : Claim7 := { stood := { row := decReadsRow, standIns := [], harness := (true, "080145ca9145b7c2dc72940644305bbdab513b358b4d85c449b61f587f12e8be"), looks := true }, kinds := [], alts := [], laidByText := true, laidKinds := [.data, .sentinel, .sentinel, .pinned], laidTests := true, laidLooks := .later }
def DecReadsCardSaid : Prop := Claim7.holds Tryd.pinned (.plain (OpenSpec.ofChange decReadsSpec)) decReadsCard

/-- THE TIED CARD OF 'voyagelaw01.DecOrders'. -/
def decOrdersCard : Claim7 := { stood := { row := decOrdersRow, standIns := [], harness := (true, "080145ca9145b7c2dc72940644305bbdab513b358b4d85c449b61f587f12e8be"), looks := true }, kinds := [], alts := [], laidByText := true, laidKinds := [.data, .sentinel, .sentinel, .pinned], laidTests := true, laidLooks := .later }
def DecOrdersCardSaid : Prop := Claim7.holds Tryd.pinned (.plain (OpenSpec.ofChange decOrdersSpec)) decOrdersCard

/-- THE TIED CARD OF 'voyagelaw01.DecForms'. -/
def decFormsCard : Claim7 := { stood := { row := decFormsRow, standIns := [], harness := (true, "080145ca9145b7c2dc72940644305bbdab513b358b4d85c449b61f587f12e8be"), looks := true }, kinds := [], alts := [], laidByText := true, laidKinds := [.data, .data, .data, .data, .sentinel, .sentinel, .pinned], laidTests := true, laidLooks := .later }
def DecFormsCardSaid : Prop := Claim7.holds Tryd.pinned (.plain (OpenSpec.ofChange decFormsSpec)) decFormsCard

/-- THE TIED CARD OF 'voyagelaw01.DecBack'. -/
def decBackCard : Claim7 := { stood := { row := decBackRow, standIns := [], harness := (true, "080145ca9145b7c2dc72940644305bbdab513b358b4d85c449b61f587f12e8be"), looks := true }, kinds := [], alts := [], laidByText := true, laidKinds := [.data, .data, .data, .data, .sentinel, .sentinel, .pinned], laidTests := true, laidLooks := .later }
def DecBackCardSaid : Prop := Claim7.holds Tryd.pinned (.plain (OpenSpec.ofChange decBackSpec)) decBackCard

/-- THE SECOND FORM's CARD OF 'voyagelaw01.DecReads'. -/
def decReadsUptoCard : Claim7 := { stood := { row := decReadsUptoRow, standIns := [], harness := (true, "080145ca9145b7c2dc72940644305bbdab513b358b4d85c449b61f587f12e8be"), looks := true }, kinds := [], alts := [], laidByText := true, laidKinds := [.data, .sentinel, .sentinel, .pinned], laidTests := true, laidLooks := .later }
def DecReadsUptoCardSaid : Prop := Claim7.holds Tryd.pinned (.plain (OpenSpec.upto decReadsSpec)) decReadsUptoCard

/-- THE SECOND FORM's CARD OF 'voyagelaw01.DecOrders'. -/
def decOrdersUptoCard : Claim7 := { stood := { row := decOrdersUptoRow, standIns := [], harness := (true, "080145ca9145b7c2dc72940644305bbdab513b358b4d85c449b61f587f12e8be"), looks := true }, kinds := [], alts := [], laidByText := true, laidKinds := [.data, .sentinel, .sentinel, .pinned], laidTests := true, laidLooks := .later }
def DecOrdersUptoCardSaid : Prop := Claim7.holds Tryd.pinned (.plain (OpenSpec.upto decOrdersSpec)) decOrdersUptoCard

/-- THE SECOND FORM's CARD OF 'voyagelaw01.DecForms'. -/
def decFormsUptoCard : Claim7 := { stood := { row := decFormsUptoRow, standIns := [], harness := (true, "080145ca9145b7c2dc72940644305bbdab513b358b4d85c449b61f587f12e8be"), looks := true }, kinds := [], alts := [], laidByText := true, laidKinds := [.data, .data, .data, .data, .sentinel, .sentinel, .pinned], laidTests := true, laidLooks := .later }
def DecFormsUptoCardSaid : Prop := Claim7.holds Tryd.pinned (.plain (OpenSpec.upto decFormsSpec)) decFormsUptoCard

/-- THE SECOND FORM's CARD OF 'voyagelaw01.DecBack'. -/
def decBackUptoCard : Claim7 := { stood := { row := decBackUptoRow, standIns := [], harness := (true, "080145ca9145b7c2dc72940644305bbdab513b358b4d85c449b61f587f12e8be"), looks := true }, kinds := [], alts := [], laidByText := true, laidKinds := [.data, .data, .data, .data, .sentinel, .sentinel, .pinned], laidTests := true, laidLooks := .later }
def DecBackUptoCardSaid : Prop := Claim7.holds Tryd.pinned (.plain (OpenSpec.upto decBackSpec)) decBackUptoCard
end Rows
end Go.Proofs.YtflknoaihkhciaaDoor
