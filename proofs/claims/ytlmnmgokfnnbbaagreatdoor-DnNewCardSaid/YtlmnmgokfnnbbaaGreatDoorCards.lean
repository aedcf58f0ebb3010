/-
  DERIVED. GIVEN WITH THE SEED: THE CARDS: each row of YtlmnmgokfnnbbaaGreatDoorRows.lean that lists a variable, with what it lists TIED to the program's text (the seventh form; the later family's looks); each row that meets fmt, with fmt's text TOLD by the authors' own Lean function (tested against real Go, not proved from fmt's source: count such statements apart). THE CARD IS WHAT COUNTS. Prove the row's statement (the work); the ties are given (YtlmnmgokfnnbbaaGreatDoorTie.lean); close each card by the builder's one call (the guide's Derived/Test/ToyasCard.lean, 'card_holds'). Laid BY PROGRAM, IN A SANDBOX (cutbox-door.mjs). By AI agents, Wed Nov 11 2026. No macro, syntax, notation, axiom, sorry.
-/
import Derived.Test.YtlmnmgokfnnbbaaGreatDoorRows
import GoSem.ClaimSeven
namespace Go.Proofs.YtlmnmgokfnnbbaaGreatDoor
namespace Rows

/-- THE TIED CARD OF 'cretulalaw12.DnSame'. -/
def dnSameCard : Claim7 := { stood := { row := dnSameRow, standIns := [], harness := (true, "48fc745449119611ac51711fbd50e25ceec59d882f47d5b6d6376b0912e8a1b0"), looks := true }, kinds := [], alts := [], laidByText := true, laidKinds := [.data, .data, .data, .data, .sentinel, .sentinel, .pinned], laidTests := true, laidLooks := .later }
def DnSameCardSaid : Prop := Claim7.holds Tryz.pinned (.plain (OpenSpec.ofChange dnSameSpec)) dnSameCard

/-- THE TIED CARD OF 'cretulalaw12.DnTexts'. -/
def dnTextsCard : Claim7 := { stood := { row := dnTextsRow, standIns := [], harness := (true, "48fc745449119611ac51711fbd50e25ceec59d882f47d5b6d6376b0912e8a1b0"), looks := true }, kinds := [], alts := [], laidByText := true, laidKinds := [.data, .data, .data, .data, .sentinel, .sentinel, .pinned], laidTests := true, laidLooks := .later }
def DnTextsCardSaid : Prop := Claim7.holds Tryz.pinned (.plain (OpenSpec.ofChange dnTextsSpec)) dnTextsCard

/-- THE TIED CARD OF 'cretulalaw12.DnRDNChanges'. -/
def dnRDNChangesCard : Claim7 := { stood := { row := dnRDNChangesRow, standIns := [], harness := (true, "48fc745449119611ac51711fbd50e25ceec59d882f47d5b6d6376b0912e8a1b0"), looks := true }, kinds := [], alts := [], laidByText := true, laidKinds := [.data, .data, .data, .data, .sentinel, .sentinel, .pinned], laidTests := true, laidLooks := .later }
def DnRDNChangesCardSaid : Prop := Claim7.holds Tryz.pinned (.plain (OpenSpec.ofChange dnRDNChangesSpec)) dnRDNChangesCard

/-- THE TIED CARD OF 'cretulalaw12.DnRDNMarshals'. -/
def dnRDNMarshalsCard : Claim7 := { stood := { row := dnRDNMarshalsRow, standIns := [], harness := (true, "48fc745449119611ac51711fbd50e25ceec59d882f47d5b6d6376b0912e8a1b0"), looks := true }, kinds := [], alts := [], laidByText := true, laidKinds := [.data, .data, .data, .data, .sentinel, .sentinel, .pinned], laidTests := true, laidLooks := .later }
def DnRDNMarshalsCardSaid : Prop := Claim7.holds Tryz.pinned (.plain (OpenSpec.ofChange dnRDNMarshalsSpec)) dnRDNMarshalsCard

/-- THE TIED CARD OF 'cretulalaw12.DnRDNParses'. -/
def dnRDNParsesCard : Claim7 := { stood := { row := dnRDNParsesRow, standIns := [], harness := (true, "48fc745449119611ac51711fbd50e25ceec59d882f47d5b6d6376b0912e8a1b0"), looks := true }, kinds := [], alts := [], laidByText := true, laidKinds := [.data, .data, .data, .data, .sentinel, .sentinel, .pinned], laidTests := true, laidLooks := .later }
def DnRDNParsesCardSaid : Prop := Claim7.holds Tryz.pinned (.plain (OpenSpec.ofChange dnRDNParsesSpec)) dnRDNParsesCard

/-- THE TIED CARD OF 'cretulalaw12.DnMarshals'. -/
def dnMarshalsCard : Claim7 := { stood := { row := dnMarshalsRow, standIns := [], harness := (true, "48fc745449119611ac51711fbd50e25ceec59d882f47d5b6d6376b0912e8a1b0"), looks := true }, kinds := [], alts := [], laidByText := true, laidKinds := [.data, .data, .data, .data, .sentinel, .sentinel, .pinned], laidTests := true, laidLooks := .later }
def DnMarshalsCardSaid : Prop := Claim7.holds Tryz.pinned (.plain (OpenSpec.ofChange dnMarshalsSpec)) dnMarshalsCard

/-- THE TIED CARD OF 'cretulalaw12.DnParses'. -/
def dnParsesCard : Claim7 := { stood := { row := dnParsesRow, standIns := [], harness := (true, "48fc745449119611ac51711fbd50e25ceec59d882f47d5b6d6376b0912e8a1b0"), looks := true }, kinds := [], alts := [], laidByText := true, laidKinds := [.data, .data, .data, .data, .sentinel, .sentinel, .pinned], laidTests := true, laidLooks := .later }
def DnParsesCardSaid : Prop := Claim7.holds Tryz.pinned (.plain (OpenSpec.ofChange dnParsesSpec)) dnParsesCard

/-- THE TIED CARD OF 'cretulalaw12.DnChanges'. -/
def dnChangesCard : Claim7 := { stood := { row := dnChangesRow, standIns := [], harness := (true, "48fc745449119611ac51711fbd50e25ceec59d882f47d5b6d6376b0912e8a1b0"), looks := true }, kinds := [], alts := [], laidByText := true, laidKinds := [.data, .data, .data, .data, .sentinel, .sentinel, .pinned], laidTests := true, laidLooks := .later }
def DnChangesCardSaid : Prop := Claim7.holds Tryz.pinned (.plain (OpenSpec.ofChange dnChangesSpec)) dnChangesCard

/-- THE TIED CARD OF 'cretulalaw12.DnEnds'. -/
def dnEndsCard : Claim7 := { stood := { row := dnEndsRow, standIns := [], harness := (true, "48fc745449119611ac51711fbd50e25ceec59d882f47d5b6d6376b0912e8a1b0"), looks := true }, kinds := [], alts := [], laidByText := true, laidKinds := [.data, .data, .data, .data, .sentinel, .sentinel, .pinned], laidTests := true, laidLooks := .later }
def DnEndsCardSaid : Prop := Claim7.holds Tryz.pinned (.plain (OpenSpec.ofChange dnEndsSpec)) dnEndsCard

/-- THE TIED CARD OF 'cretulalaw12.DnCopies'. -/
def dnCopiesCard : Claim7 := { stood := { row := dnCopiesRow, standIns := [], harness := (true, "48fc745449119611ac51711fbd50e25ceec59d882f47d5b6d6376b0912e8a1b0"), looks := true }, kinds := [], alts := [], laidByText := true, laidKinds := [.data, .data, .data, .data, .sentinel, .sentinel, .pinned], laidTests := true, laidLooks := .later }
def DnCopiesCardSaid : Prop := Claim7.holds Tryz.pinned (.plain (OpenSpec.ofChange dnCopiesSpec)) dnCopiesCard

/-- THE TIED CARD OF 'cretulalaw12.DnNew'. -/
def dnNewCard : Claim7 := { stood := { row := dnNewRow, standIns := [], harness := (true, "48fc745449119611ac51711fbd50e25ceec59d882f47d5b6d6376b0912e8a1b0"), looks := true }, kinds := [], alts := [], laidByText := true, laidKinds := [.data, .data, .data, .data, .sentinel, .sentinel, .pinned], laidTests := true, laidLooks := .later }
def DnNewCardSaid : Prop := Claim7.holds Tryz.pinned (.plain (OpenSpec.ofChange dnNewSpec)) dnNewCard

/-- THE SECOND FORM's CARD OF 'cretulalaw12.DnSame'. -/
def dnSameUptoCard : Claim7 := { stood := { row := dnSameUptoRow, standIns := [], harness := (true, "48fc745449119611ac51711fbd50e25ceec59d882f47d5b6d6376b0912e8a1b0"), looks := true }, kinds := [], alts := [], laidByText := true, laidKinds := [.data, .data, .data, .data, .sentinel, .sentinel, .pinned], laidTests := true, laidLooks := .later }
def DnSameUptoCardSaid : Prop := Claim7.holds Tryz.pinned (.plain (OpenSpec.upto dnSameSpec)) dnSameUptoCard

/-- THE SECOND FORM's CARD OF 'cretulalaw12.DnTexts'. -/
def dnTextsUptoCard : Claim7 := { stood := { row := dnTextsUptoRow, standIns := [], harness := (true, "48fc745449119611ac51711fbd50e25ceec59d882f47d5b6d6376b0912e8a1b0"), looks := true }, kinds := [], alts := [], laidByText := true, laidKinds := [.data, .data, .data, .data, .sentinel, .sentinel, .pinned], laidTests := true, laidLooks := .later }
def DnTextsUptoCardSaid : Prop := Claim7.holds Tryz.pinned (.plain (OpenSpec.upto dnTextsSpec)) dnTextsUptoCard

/-- THE SECOND FORM's CARD OF 'cretulalaw12.DnRDNChanges'. -/
def dnRDNChangesUptoCard : Claim7 := { stood := { row := dnRDNChangesUptoRow, standIns := [], harness := (true, "48fc745449119611ac51711fbd50e25ceec59d882f47d5b6d6376b0912e8a1b0"), looks := true }, kinds := [], alts := [], laidByText := true, laidKinds := [.data, .data, .data, .data, .sentinel, .sentinel, .pinned], laidTests := true, laidLooks := .later }
def DnRDNChangesUptoCardSaid : Prop := Claim7.holds Tryz.pinned (.plain (OpenSpec.upto dnRDNChangesSpec)) dnRDNChangesUptoCard

/-- THE SECOND FORM's CARD OF 'cretulalaw12.DnRDNMarshals'. -/
def dnRDNMarshalsUptoCard : Claim7 := { stood := { row := dnRDNMarshalsUptoRow, standIns := [], harness := (true, "48fc745449119611ac51711fbd50e25ceec59d882f47d5b6d6376b0912e8a1b0"), looks := true }, kinds := [], alts := [], laidByText := true, laidKinds := [.data, .data, .data, .data, .sentinel, .sentinel, .pinned], laidTests := true, laidLooks := .later }
def DnRDNMarshalsUptoCardSaid : Prop := Claim7.holds Tryz.pinned (.plain (OpenSpec.upto dnRDNMarshalsSpec)) dnRDNMarshalsUptoCard

/-- THE SECOND FORM's CARD OF 'cretulalaw12.DnRDNParses'. -/
def dnRDNParsesUptoCard : Claim7 := { stood := { row := dnRDNParsesUptoRow, standIns := [], harness := (true, "48fc745449119611ac51711fbd50e25ceec59d882f47d5b6d6376b0912e8a1b0"), looks := true }, kinds := [], alts := [], laidByText := true, laidKinds := [.data, .data, .data, .data, .sentinel, .sentinel, .pinned], laidTests := true, laidLooks := .later }
def DnRDNParsesUptoCardSaid : Prop := Claim7.holds Tryz.pinned (.plain (OpenSpec.upto dnRDNParsesSpec)) dnRDNParsesUptoCard

/-- THE SECOND FORM's CARD OF 'cretulalaw12.DnMarshals'. -/
def dnMarshalsUptoCard : Claim7 := { stood := { row := dnMarshalsUptoRow, standIns := [], harness := (true, "48fc745449119611ac51711fbd50e25ceec59d882f47d5b6d6376b0912e8a1b0"), looks := true }, kinds := [], alts := [], laidByText := true, laidKinds := [.data, .data, .data, .data, .sentinel, .sentinel, .pinned], laidTests := true, laidLooks := .later }
def DnMarshalsUptoCardSaid : Prop := Claim7.holds Tryz.pinned (.plain (OpenSpec.upto dnMarshalsSpec)) dnMarshalsUptoCard

/-- THE SECOND FORM's CARD OF 'cretulalaw12.DnParses'. -/
def dnParsesUptoCard : Claim7 := { stood := { row := dnParsesUptoRow, standIns := [], harness := (true, "48fc745449119611ac51711fbd50e25ceec59d882f47d5b6d6376b0912e8a1b0"), looks := true }, kinds := [], alts := [], laidByText := true, laidKinds := [.data, .data, .data, .data, .sentinel, .sentinel, .pinned], laidTests := true, laidLooks := .later }
def DnParsesUptoCardSaid : Prop := Claim7.holds Tryz.pinned (.plain (OpenSpec.upto dnParsesSpec)) dnParsesUptoCard

/-- THE SECOND FORM's CARD OF 'cretulalaw12.DnChanges'. -/
def dnChangesUptoCard : Claim7 := { stood := { row := dnChangesUptoRow, standIns := [], harness := (true, "48fc745449119611ac51711fbd50e25ceec59d882f47d5b6d6376b0912e8a1b0"), looks := true }, kinds := [], alts := [], laidByText := true, laidKinds := [.data, .data, .data, .data, .sentinel, .sentinel, .pinned], laidTests := true, laidLooks := .later }
def DnChangesUptoCardSaid : Prop := Claim7.holds Tryz.pinned (.plain (OpenSpec.upto dnChangesSpec)) dnChangesUptoCard

/-- THE SECOND FORM's CARD OF 'cretulalaw12.DnEnds'. -/
def dnEndsUptoCard : Claim7 := { stood := { row := dnEndsUptoRow, standIns := [], harness := (true, "48fc745449119611ac51711fbd50e25ceec59d882f47d5b6d6376b0912e8a1b0"), looks := true }, kinds := [], alts := [], laidByText := true, laidKinds := [.data, .data, .data, .data, .sentinel, .sentinel, .pinned], laidTests := true, laidLooks := .later }
def DnEndsUptoCardSaid : Prop := Claim7.holds Tryz.pinned (.plain (OpenSpec.upto dnEndsSpec)) dnEndsUptoCard

/-- THE SECOND FORM's CARD OF 'cretulalaw12.DnCopies'. -/
def dnCopiesUptoCard : Claim7 := { stood := { row := dnCopiesUptoRow, standIns := [], harness := (true, "48fc745449119611ac51711fbd50e25ceec59d882f47d5b6d6376b0912e8a1b0"), looks := true }, kinds := [], alts := [], laidByText := true, laidKinds := [.data, .data, .data, .data, .sentinel, .sentinel, .pinned], laidTests := true, laidLooks := .later }
def DnCopiesUptoCardSaid : Prop := Claim7.holds Tryz.pinned (.plain (OpenSpec.upto dnCopiesSpec)) dnCopiesUptoCard

/-- THE SECOND FORM's CARD OF 'cretulalaw12.DnNew'. -/
def dnNewUptoCard : Claim7 := { stood := { row := dnNewUptoRow, standIns := [], harness := (true, "48fc745449119611ac51711fbd50e25ceec59d882f47d5b6d6376b0912e8a1b0"), looks := true }, kinds := [], alts := [], laidByText := true, laidKinds := [.data, .data, .data, .data, .sentinel, .sentinel, .pinned], laidTests := true, laidLooks := .later }
def DnNewUptoCardSaid : Prop := Claim7.holds Tryz.pinned (.plain (OpenSpec.upto dnNewSpec)) dnNewUptoCard
end Rows
end Go.Proofs.YtlmnmgokfnnbbaaGreatDoor
