/-
  DERIVED. GIVEN WITH THE SEED: THE CARDS: each row of YtjjkimjdmpeddaaGreatDoorRows.lean that lists a variable, with what it lists TIED to the program's text (the seventh form; the later family's looks); each row that meets fmt, with fmt's text TOLD by the authors' own Lean function (tested against real Go, not proved from fmt's source: count such statements apart). THE CARD IS WHAT COUNTS. Prove the row's statement (the work); the ties are given (YtjjkimjdmpeddaaGreatDoorTie.lean); close each card by the builder's one call (the guide's Derived/Test/ToyasCard.lean, 'card_holds'). Laid BY PROGRAM, IN A SANDBOX (cutbox-door.mjs). By AI agents, Wed Nov 11 2026. No macro, syntax, notation, axiom, sorry.
-/
import Derived.Test.YtjjkimjdmpeddaaGreatDoorRows
import GoSem.ClaimSeven
namespace Go.Proofs.YtjjkimjdmpeddaaGreatDoor
namespace Rows

/-- THE TIED CARD OF 'cretulalaw17.PolicyAllows'. -/
def policyAllowsCard : Claim7 := { stood := { row := policyAllowsRow, standIns := [], harness := (true, "fa824e02935b73a10e1c667608401ca2600287d711bb144e4d8cfcd13add89cb"), looks := true }, kinds := [], alts := [], laidByText := true, laidKinds := [.data, .data, .data, .data, .sentinel, .sentinel, .pinned], laidTests := true, laidLooks := .later }
def PolicyAllowsCardSaid : Prop := Claim7.holds Tryz.pinned (.plain (OpenSpec.ofChange policyAllowsSpec)) policyAllowsCard

/-- THE TIED CARD OF 'cretulalaw17.PolicyNoticeMarshals'. -/
def policyNoticeMarshalsCard : Claim7 := { stood := { row := policyNoticeMarshalsRow, standIns := [], harness := (true, "fa824e02935b73a10e1c667608401ca2600287d711bb144e4d8cfcd13add89cb"), looks := true }, kinds := [], alts := [], laidByText := true, laidKinds := [.data, .data, .data, .data, .sentinel, .sentinel, .pinned], laidTests := true, laidLooks := .later }
def PolicyNoticeMarshalsCardSaid : Prop := Claim7.holds Tryz.pinned (.plain (OpenSpec.ofChange policyNoticeMarshalsSpec)) policyNoticeMarshalsCard

/-- THE TIED CARD OF 'cretulalaw17.PolicyNoticeParses'. -/
def policyNoticeParsesCard : Claim7 := { stood := { row := policyNoticeParsesRow, standIns := [], harness := (true, "fa824e02935b73a10e1c667608401ca2600287d711bb144e4d8cfcd13add89cb"), looks := true }, kinds := [], alts := [], laidByText := true, laidKinds := [.data, .data, .data, .data, .sentinel, .sentinel, .pinned], laidTests := true, laidLooks := .later }
def PolicyNoticeParsesCardSaid : Prop := Claim7.holds Tryz.pinned (.plain (OpenSpec.ofChange policyNoticeParsesSpec)) policyNoticeParsesCard

/-- THE TIED CARD OF 'cretulalaw17.PolicyNoticeChanges'. -/
def policyNoticeChangesCard : Claim7 := { stood := { row := policyNoticeChangesRow, standIns := [], harness := (true, "fa824e02935b73a10e1c667608401ca2600287d711bb144e4d8cfcd13add89cb"), looks := true }, kinds := [], alts := [], laidByText := true, laidKinds := [.data, .data, .data, .data, .sentinel, .sentinel, .pinned], laidTests := true, laidLooks := .later }
def PolicyNoticeChangesCardSaid : Prop := Claim7.holds Tryz.pinned (.plain (OpenSpec.ofChange policyNoticeChangesSpec)) policyNoticeChangesCard

/-- THE TIED CARD OF 'cretulalaw17.PolicyMappingsMarshals'. -/
def policyMappingsMarshalsCard : Claim7 := { stood := { row := policyMappingsMarshalsRow, standIns := [], harness := (true, "fa824e02935b73a10e1c667608401ca2600287d711bb144e4d8cfcd13add89cb"), looks := true }, kinds := [], alts := [], laidByText := true, laidKinds := [.data, .data, .data, .data, .sentinel, .sentinel, .pinned], laidTests := true, laidLooks := .later }
def PolicyMappingsMarshalsCardSaid : Prop := Claim7.holds Tryz.pinned (.plain (OpenSpec.ofChange policyMappingsMarshalsSpec)) policyMappingsMarshalsCard

/-- THE TIED CARD OF 'cretulalaw17.PolicyMappingsParses'. -/
def policyMappingsParsesCard : Claim7 := { stood := { row := policyMappingsParsesRow, standIns := [], harness := (true, "fa824e02935b73a10e1c667608401ca2600287d711bb144e4d8cfcd13add89cb"), looks := true }, kinds := [], alts := [], laidByText := true, laidKinds := [.data, .data, .data, .data, .sentinel, .sentinel, .pinned], laidTests := true, laidLooks := .later }
def PolicyMappingsParsesCardSaid : Prop := Claim7.holds Tryz.pinned (.plain (OpenSpec.ofChange policyMappingsParsesSpec)) policyMappingsParsesCard

/-- THE TIED CARD OF 'cretulalaw17.PolicyMarshals'. -/
def policyMarshalsCard : Claim7 := { stood := { row := policyMarshalsRow, standIns := [], harness := (true, "fa824e02935b73a10e1c667608401ca2600287d711bb144e4d8cfcd13add89cb"), looks := true }, kinds := [], alts := [], laidByText := true, laidKinds := [.data, .data, .data, .data, .sentinel, .sentinel, .pinned], laidTests := true, laidLooks := .later }
def PolicyMarshalsCardSaid : Prop := Claim7.holds Tryz.pinned (.plain (OpenSpec.ofChange policyMarshalsSpec)) policyMarshalsCard

/-- THE TIED CARD OF 'cretulalaw17.PolicyParses'. -/
def policyParsesCard : Claim7 := { stood := { row := policyParsesRow, standIns := [], harness := (true, "fa824e02935b73a10e1c667608401ca2600287d711bb144e4d8cfcd13add89cb"), looks := true }, kinds := [], alts := [], laidByText := true, laidKinds := [.data, .data, .data, .data, .sentinel, .sentinel, .pinned], laidTests := true, laidLooks := .later }
def PolicyParsesCardSaid : Prop := Claim7.holds Tryz.pinned (.plain (OpenSpec.ofChange policyParsesSpec)) policyParsesCard

/-- THE TIED CARD OF 'cretulalaw17.PolicyChanges'. -/
def policyChangesCard : Claim7 := { stood := { row := policyChangesRow, standIns := [], harness := (true, "fa824e02935b73a10e1c667608401ca2600287d711bb144e4d8cfcd13add89cb"), looks := true }, kinds := [], alts := [], laidByText := true, laidKinds := [.data, .data, .data, .data, .sentinel, .sentinel, .pinned], laidTests := true, laidLooks := .later }
def PolicyChangesCardSaid : Prop := Claim7.holds Tryz.pinned (.plain (OpenSpec.ofChange policyChangesSpec)) policyChangesCard

/-- THE TIED CARD OF 'cretulalaw17.PolicyEnds'. -/
def policyEndsCard : Claim7 := { stood := { row := policyEndsRow, standIns := [], harness := (true, "fa824e02935b73a10e1c667608401ca2600287d711bb144e4d8cfcd13add89cb"), looks := true }, kinds := [], alts := [], laidByText := true, laidKinds := [.data, .data, .data, .data, .sentinel, .sentinel, .pinned], laidTests := true, laidLooks := .later }
def PolicyEndsCardSaid : Prop := Claim7.holds Tryz.pinned (.plain (OpenSpec.ofChange policyEndsSpec)) policyEndsCard

/-- THE TIED CARD OF 'cretulalaw17.PolicyCopies'. -/
def policyCopiesCard : Claim7 := { stood := { row := policyCopiesRow, standIns := [], harness := (true, "fa824e02935b73a10e1c667608401ca2600287d711bb144e4d8cfcd13add89cb"), looks := true }, kinds := [], alts := [], laidByText := true, laidKinds := [.data, .data, .data, .data, .sentinel, .sentinel, .pinned], laidTests := true, laidLooks := .later }
def PolicyCopiesCardSaid : Prop := Claim7.holds Tryz.pinned (.plain (OpenSpec.ofChange policyCopiesSpec)) policyCopiesCard

/-- THE SECOND FORM's CARD OF 'cretulalaw17.PolicyAllows'. -/
def policyAllowsUptoCard : Claim7 := { stood := { row := policyAllowsUptoRow, standIns := [], harness := (true, "fa824e02935b73a10e1c667608401ca2600287d711bb144e4d8cfcd13add89cb"), looks := true }, kinds := [], alts := [], laidByText := true, laidKinds := [.data, .data, .data, .data, .sentinel, .sentinel, .pinned], laidTests := true, laidLooks := .later }
def PolicyAllowsUptoCardSaid : Prop := Claim7.holds Tryz.pinned (.plain (OpenSpec.upto policyAllowsSpec)) policyAllowsUptoCard

/-- THE SECOND FORM's CARD OF 'cretulalaw17.PolicyNoticeMarshals'. -/
def policyNoticeMarshalsUptoCard : Claim7 := { stood := { row := policyNoticeMarshalsUptoRow, standIns := [], harness := (true, "fa824e02935b73a10e1c667608401ca2600287d711bb144e4d8cfcd13add89cb"), looks := true }, kinds := [], alts := [], laidByText := true, laidKinds := [.data, .data, .data, .data, .sentinel, .sentinel, .pinned], laidTests := true, laidLooks := .later }
def PolicyNoticeMarshalsUptoCardSaid : Prop := Claim7.holds Tryz.pinned (.plain (OpenSpec.upto policyNoticeMarshalsSpec)) policyNoticeMarshalsUptoCard

/-- THE SECOND FORM's CARD OF 'cretulalaw17.PolicyNoticeParses'. -/
def policyNoticeParsesUptoCard : Claim7 := { stood := { row := policyNoticeParsesUptoRow, standIns := [], harness := (true, "fa824e02935b73a10e1c667608401ca2600287d711bb144e4d8cfcd13add89cb"), looks := true }, kinds := [], alts := [], laidByText := true, laidKinds := [.data, .data, .data, .data, .sentinel, .sentinel, .pinned], laidTests := true, laidLooks := .later }
def PolicyNoticeParsesUptoCardSaid : Prop := Claim7.holds Tryz.pinned (.plain (OpenSpec.upto policyNoticeParsesSpec)) policyNoticeParsesUptoCard

/-- THE SECOND FORM's CARD OF 'cretulalaw17.PolicyNoticeChanges'. -/
def policyNoticeChangesUptoCard : Claim7 := { stood := { row := policyNoticeChangesUptoRow, standIns := [], harness := (true, "fa824e02935b73a10e1c667608401ca2600287d711bb144e4d8cfcd13add89cb"), looks := true }, kinds := [], alts := [], laidByText := true, laidKinds := [.data, .data, .data, .data, .sentinel, .sentinel, .pinned], laidTests := true, laidLooks := .later }
def PolicyNoticeChangesUptoCardSaid : Prop := Claim7.holds Tryz.pinned (.plain (OpenSpec.upto policyNoticeChangesSpec)) policyNoticeChangesUptoCard

/-- THE SECOND FORM's CARD OF 'cretulalaw17.PolicyMappingsMarshals'. -/
def policyMappingsMarshalsUptoCard : Claim7 := { stood := { row := policyMappingsMarshalsUptoRow, standIns := [], harness := (true, "fa824e02935b73a10e1c667608401ca2600287d711bb144e4d8cfcd13add89cb"), looks := true }, kinds := [], alts := [], laidByText := true, laidKinds := [.data, .data, .data, .data, .sentinel, .sentinel, .pinned], laidTests := true, laidLooks := .later }
def PolicyMappingsMarshalsUptoCardSaid : Prop := Claim7.holds Tryz.pinned (.plain (OpenSpec.upto policyMappingsMarshalsSpec)) policyMappingsMarshalsUptoCard

/-- THE SECOND FORM's CARD OF 'cretulalaw17.PolicyMappingsParses'. -/
def policyMappingsParsesUptoCard : Claim7 := { stood := { row := policyMappingsParsesUptoRow, standIns := [], harness := (true, "fa824e02935b73a10e1c667608401ca2600287d711bb144e4d8cfcd13add89cb"), looks := true }, kinds := [], alts := [], laidByText := true, laidKinds := [.data, .data, .data, .data, .sentinel, .sentinel, .pinned], laidTests := true, laidLooks := .later }
def PolicyMappingsParsesUptoCardSaid : Prop := Claim7.holds Tryz.pinned (.plain (OpenSpec.upto policyMappingsParsesSpec)) policyMappingsParsesUptoCard

/-- THE SECOND FORM's CARD OF 'cretulalaw17.PolicyMarshals'. -/
def policyMarshalsUptoCard : Claim7 := { stood := { row := policyMarshalsUptoRow, standIns := [], harness := (true, "fa824e02935b73a10e1c667608401ca2600287d711bb144e4d8cfcd13add89cb"), looks := true }, kinds := [], alts := [], laidByText := true, laidKinds := [.data, .data, .data, .data, .sentinel, .sentinel, .pinned], laidTests := true, laidLooks := .later }
def PolicyMarshalsUptoCardSaid : Prop := Claim7.holds Tryz.pinned (.plain (OpenSpec.upto policyMarshalsSpec)) policyMarshalsUptoCard

/-- THE SECOND FORM's CARD OF 'cretulalaw17.PolicyParses'. -/
def policyParsesUptoCard : Claim7 := { stood := { row := policyParsesUptoRow, standIns := [], harness := (true, "fa824e02935b73a10e1c667608401ca2600287d711bb144e4d8cfcd13add89cb"), looks := true }, kinds := [], alts := [], laidByText := true, laidKinds := [.data, .data, .data, .data, .sentinel, .sentinel, .pinned], laidTests := true, laidLooks := .later }
def PolicyParsesUptoCardSaid : Prop := Claim7.holds Tryz.pinned (.plain (OpenSpec.upto policyParsesSpec)) policyParsesUptoCard

/-- THE SECOND FORM's CARD OF 'cretulalaw17.PolicyChanges'. -/
def policyChangesUptoCard : Claim7 := { stood := { row := policyChangesUptoRow, standIns := [], harness := (true, "fa824e02935b73a10e1c667608401ca2600287d711bb144e4d8cfcd13add89cb"), looks := true }, kinds := [], alts := [], laidByText := true, laidKinds := [.data, .data, .data, .data, .sentinel, .sentinel, .pinned], laidTests := true, laidLooks := .later }
def PolicyChangesUptoCardSaid : Prop := Claim7.holds Tryz.pinned (.plain (OpenSpec.upto policyChangesSpec)) policyChangesUptoCard

/-- THE SECOND FORM's CARD OF 'cretulalaw17.PolicyEnds'. -/
def policyEndsUptoCard : Claim7 := { stood := { row := policyEndsUptoRow, standIns := [], harness := (true, "fa824e02935b73a10e1c667608401ca2600287d711bb144e4d8cfcd13add89cb"), looks := true }, kinds := [], alts := [], laidByText := true, laidKinds := [.data, .data, .data, .data, .sentinel, .sentinel, .pinned], laidTests := true, laidLooks := .later }
def PolicyEndsUptoCardSaid : Prop := Claim7.holds Tryz.pinned (.plain (OpenSpec.upto policyEndsSpec)) policyEndsUptoCard

/-- THE SECOND FORM's CARD OF 'cretulalaw17.PolicyCopies'. -/
def policyCopiesUptoCard : Claim7 := { stood := { row := policyCopiesUptoRow, standIns := [], harness := (true, "fa824e02935b73a10e1c667608401ca2600287d711bb144e4d8cfcd13add89cb"), looks := true }, kinds := [], alts := [], laidByText := true, laidKinds := [.data, .data, .data, .data, .sentinel, .sentinel, .pinned], laidTests := true, laidLooks := .later }
def PolicyCopiesUptoCardSaid : Prop := Claim7.holds Tryz.pinned (.plain (OpenSpec.upto policyCopiesSpec)) policyCopiesUptoCard
end Rows
end Go.Proofs.YtjjkimjdmpeddaaGreatDoor
