/-
  DERIVED. GIVEN WITH THE SEED: THE CARDS: each row of YtejmkefdcjachaaGreatDoorRows.lean that lists a variable, with what it lists TIED to the program's text (the seventh form; the later family's looks); each row that meets fmt, with fmt's text TOLD by the authors' own Lean function (tested against real Go, not proved from fmt's source: count such statements apart). THE CARD IS WHAT COUNTS. Prove the row's statement (the work); the ties are given (YtejmkefdcjachaaGreatDoorTie.lean); close each card by the builder's one call (the guide's Derived/Test/ToyasCard.lean, 'card_holds'). Laid BY PROGRAM, IN A SANDBOX (cutbox-door.mjs). By AI agents, Wed Nov 11 2026. No macro, syntax, notation, axiom, sorry.
-/
import Derived.Test.YtejmkefdcjachaaGreatDoorRows
import GoSem.ClaimSeven
namespace Go.Proofs.YtejmkefdcjachaaGreatDoor
namespace Rows

/-- THE TIED CARD OF 'cretulalaw11.AttributeStrings'. -/
def attributeStringsCard : Claim7 := { stood := { row := attributeStringsRow, standIns := [], harness := (true, "a669af08838cfad0aa38966214e8cb1e037c880dbfa1422bd235b91a679aa7b7"), looks := true }, kinds := [], alts := [], laidByText := true, laidKinds := [.data, .data, .data, .data, .sentinel, .sentinel, .pinned], laidTests := true, laidLooks := .later }
def AttributeStringsCardSaid : Prop := Claim7.holds Tryz.pinned (.plain (OpenSpec.ofChange attributeStringsSpec)) attributeStringsCard

/-- THE TIED CARD OF 'cretulalaw11.AttributeElements'. -/
def attributeElementsCard : Claim7 := { stood := { row := attributeElementsRow, standIns := [], harness := (true, "a669af08838cfad0aa38966214e8cb1e037c880dbfa1422bd235b91a679aa7b7"), looks := true }, kinds := [], alts := [], laidByText := true, laidKinds := [.data, .data, .data, .data, .sentinel, .sentinel, .pinned], laidTests := true, laidLooks := .later }
def AttributeElementsCardSaid : Prop := Claim7.holds Tryz.pinned (.plain (OpenSpec.ofChange attributeElementsSpec)) attributeElementsCard

/-- THE TIED CARD OF 'cretulalaw11.AttributeLabels'. -/
def attributeLabelsCard : Claim7 := { stood := { row := attributeLabelsRow, standIns := [], harness := (true, "a669af08838cfad0aa38966214e8cb1e037c880dbfa1422bd235b91a679aa7b7"), looks := true }, kinds := [], alts := [], laidByText := true, laidKinds := [.data, .data, .data, .data, .sentinel, .sentinel, .pinned], laidTests := true, laidLooks := .later }
def AttributeLabelsCardSaid : Prop := Claim7.holds Tryz.pinned (.plain (OpenSpec.ofChange attributeLabelsSpec)) attributeLabelsCard

/-- THE TIED CARD OF 'cretulalaw11.AttributeMarshals'. -/
def attributeMarshalsCard : Claim7 := { stood := { row := attributeMarshalsRow, standIns := [], harness := (true, "a669af08838cfad0aa38966214e8cb1e037c880dbfa1422bd235b91a679aa7b7"), looks := true }, kinds := [], alts := [], laidByText := true, laidKinds := [.data, .data, .data, .data, .sentinel, .sentinel, .pinned], laidTests := true, laidLooks := .later }
def AttributeMarshalsCardSaid : Prop := Claim7.holds Tryz.pinned (.plain (OpenSpec.ofChange attributeMarshalsSpec)) attributeMarshalsCard

/-- THE TIED CARD OF 'cretulalaw11.AttributeParses'. -/
def attributeParsesCard : Claim7 := { stood := { row := attributeParsesRow, standIns := [], harness := (true, "a669af08838cfad0aa38966214e8cb1e037c880dbfa1422bd235b91a679aa7b7"), looks := true }, kinds := [], alts := [], laidByText := true, laidKinds := [.data, .data, .data, .data, .sentinel, .sentinel, .pinned], laidTests := true, laidLooks := .later }
def AttributeParsesCardSaid : Prop := Claim7.holds Tryz.pinned (.plain (OpenSpec.ofChange attributeParsesSpec)) attributeParsesCard

/-- THE TIED CARD OF 'cretulalaw11.AttributeChanges'. -/
def attributeChangesCard : Claim7 := { stood := { row := attributeChangesRow, standIns := [], harness := (true, "a669af08838cfad0aa38966214e8cb1e037c880dbfa1422bd235b91a679aa7b7"), looks := true }, kinds := [], alts := [], laidByText := true, laidKinds := [.data, .data, .data, .data, .sentinel, .sentinel, .pinned], laidTests := true, laidLooks := .later }
def AttributeChangesCardSaid : Prop := Claim7.holds Tryz.pinned (.plain (OpenSpec.ofChange attributeChangesSpec)) attributeChangesCard

/-- THE TIED CARD OF 'cretulalaw11.AttributeEnds'. -/
def attributeEndsCard : Claim7 := { stood := { row := attributeEndsRow, standIns := [], harness := (true, "a669af08838cfad0aa38966214e8cb1e037c880dbfa1422bd235b91a679aa7b7"), looks := true }, kinds := [], alts := [], laidByText := true, laidKinds := [.data, .data, .data, .data, .sentinel, .sentinel, .pinned], laidTests := true, laidLooks := .later }
def AttributeEndsCardSaid : Prop := Claim7.holds Tryz.pinned (.plain (OpenSpec.ofChange attributeEndsSpec)) attributeEndsCard

/-- THE TIED CARD OF 'cretulalaw11.AttributeCopies'. -/
def attributeCopiesCard : Claim7 := { stood := { row := attributeCopiesRow, standIns := [], harness := (true, "a669af08838cfad0aa38966214e8cb1e037c880dbfa1422bd235b91a679aa7b7"), looks := true }, kinds := [], alts := [], laidByText := true, laidKinds := [.data, .data, .data, .data, .sentinel, .sentinel, .pinned], laidTests := true, laidLooks := .later }
def AttributeCopiesCardSaid : Prop := Claim7.holds Tryz.pinned (.plain (OpenSpec.ofChange attributeCopiesSpec)) attributeCopiesCard

/-- THE SECOND FORM's CARD OF 'cretulalaw11.AttributeStrings'. -/
def attributeStringsUptoCard : Claim7 := { stood := { row := attributeStringsUptoRow, standIns := [], harness := (true, "a669af08838cfad0aa38966214e8cb1e037c880dbfa1422bd235b91a679aa7b7"), looks := true }, kinds := [], alts := [], laidByText := true, laidKinds := [.data, .data, .data, .data, .sentinel, .sentinel, .pinned], laidTests := true, laidLooks := .later }
def AttributeStringsUptoCardSaid : Prop := Claim7.holds Tryz.pinned (.plain (OpenSpec.upto attributeStringsSpec)) attributeStringsUptoCard

/-- THE SECOND FORM's CARD OF 'cretulalaw11.AttributeElements'. -/
def attributeElementsUptoCard : Claim7 := { stood := { row := attributeElementsUptoRow, standIns := [], harness := (true, "a669af08838cfad0aa38966214e8cb1e037c880dbfa1422bd235b91a679aa7b7"), looks := true }, kinds := [], alts := [], laidByText := true, laidKinds := [.data, .data, .data, .data, .sentinel, .sentinel, .pinned], laidTests := true, laidLooks := .later }
def AttributeElementsUptoCardSaid : Prop := Claim7.holds Tryz.pinned (.plain (OpenSpec.upto attributeElementsSpec)) attributeElementsUptoCard

/-- THE SECOND FORM's CARD OF 'cretulalaw11.AttributeLabels'. -/
def attributeLabelsUptoCard : Claim7 := { stood := { row := attributeLabelsUptoRow, standIns := [], harness := (true, "a669af08838cfad0aa38966214e8cb1e037c880dbfa1422bd235b91a679aa7b7"), looks := true }, kinds := [], alts := [], laidByText := true, laidKinds := [.data, .data, .data, .data, .sentinel, .sentinel, .pinned], laidTests := true, laidLooks := .later }
def AttributeLabelsUptoCardSaid : Prop := Claim7.holds Tryz.pinned (.plain (OpenSpec.upto attributeLabelsSpec)) attributeLabelsUptoCard

/-- THE SECOND FORM's CARD OF 'cretulalaw11.AttributeMarshals'. -/
def attributeMarshalsUptoCard : Claim7 := { stood := { row := attributeMarshalsUptoRow, standIns := [], harness := (true, "a669af08838cfad0aa38966214e8cb1e037c880dbfa1422bd235b91a679aa7b7"), looks := true }, kinds := [], alts := [], laidByText := true, laidKinds := [.data, .data, .data, .data, .sentinel, .sentinel, .pinned], laidTests := true, laidLooks := .later }
def AttributeMarshalsUptoCardSaid : Prop := Claim7.holds Tryz.pinned (.plain (OpenSpec.upto attributeMarshalsSpec)) attributeMarshalsUptoCard

/-- THE SECOND FORM's CARD OF 'cretulalaw11.AttributeParses'. -/
def attributeParsesUptoCard : Claim7 := { stood := { row := attributeParsesUptoRow, standIns := [], harness := (true, "a669af08838cfad0aa38966214e8cb1e037c880dbfa1422bd235b91a679aa7b7"), looks := true }, kinds := [], alts := [], laidByText := true, laidKinds := [.data, .data, .data, .data, .sentinel, .sentinel, .pinned], laidTests := true, laidLooks := .later }
def AttributeParsesUptoCardSaid : Prop := Claim7.holds Tryz.pinned (.plain (OpenSpec.upto attributeParsesSpec)) attributeParsesUptoCard

/-- THE SECOND FORM's CARD OF 'cretulalaw11.AttributeChanges'. -/
def attributeChangesUptoCard : Claim7 := { stood := { row := attributeChangesUptoRow, standIns := [], harness := (true, "a669af08838cfad0aa38966214e8cb1e037c880dbfa1422bd235b91a679aa7b7"), looks := true }, kinds := [], alts := [], laidByText := true, laidKinds := [.data, .data, .data, .data, .sentinel, .sentinel, .pinned], laidTests := true, laidLooks := .later }
def AttributeChangesUptoCardSaid : Prop := Claim7.holds Tryz.pinned (.plain (OpenSpec.upto attributeChangesSpec)) attributeChangesUptoCard

/-- THE SECOND FORM's CARD OF 'cretulalaw11.AttributeEnds'. -/
def attributeEndsUptoCard : Claim7 := { stood := { row := attributeEndsUptoRow, standIns := [], harness := (true, "a669af08838cfad0aa38966214e8cb1e037c880dbfa1422bd235b91a679aa7b7"), looks := true }, kinds := [], alts := [], laidByText := true, laidKinds := [.data, .data, .data, .data, .sentinel, .sentinel, .pinned], laidTests := true, laidLooks := .later }
def AttributeEndsUptoCardSaid : Prop := Claim7.holds Tryz.pinned (.plain (OpenSpec.upto attributeEndsSpec)) attributeEndsUptoCard

/-- THE SECOND FORM's CARD OF 'cretulalaw11.AttributeCopies'. -/
def attributeCopiesUptoCard : Claim7 := { stood := { row := attributeCopiesUptoRow, standIns := [], harness := (true, "a669af08838cfad0aa38966214e8cb1e037c880dbfa1422bd235b91a679aa7b7"), looks := true }, kinds := [], alts := [], laidByText := true, laidKinds := [.data, .data, .data, .data, .sentinel, .sentinel, .pinned], laidTests := true, laidLooks := .later }
def AttributeCopiesUptoCardSaid : Prop := Claim7.holds Tryz.pinned (.plain (OpenSpec.upto attributeCopiesSpec)) attributeCopiesUptoCard
end Rows
end Go.Proofs.YtejmkefdcjachaaGreatDoor
