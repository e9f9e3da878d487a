/-
  DERIVED. GIVEN WITH THE SEED: THE CARDS: each row of YtenlcdokaadobaaGreatDoorRows.lean that lists a variable, with what it lists TIED to the program's text (the seventh form; the later family's looks); each row that meets fmt, with fmt's text TOLD by the authors' own Lean function (tested against real Go, not proved from fmt's source: count such statements apart). THE CARD IS WHAT COUNTS. Prove the row's statement (the work); the ties are given (YtenlcdokaadobaaGreatDoorTie.lean); close each card by the builder's one call (the guide's Derived/Test/ToyasCard.lean, 'card_holds'). Laid BY PROGRAM, IN A SANDBOX (cutbox-door.mjs). By AI agents, Wed Nov 11 2026. No macro, syntax, notation, axiom, sorry.
-/
import Derived.Test.YtenlcdokaadobaaGreatDoorRows
import GoSem.ClaimSeven
namespace Go.Proofs.YtenlcdokaadobaaGreatDoor
namespace Rows

/-- THE TIED CARD OF 'marquetrylaw15.SsaRuns'. -/
def ssaRunsCard : Claim7 := { stood := { row := ssaRunsRow, standIns := [], harness := (true, "2046ed8f2e3c50a74101c90d1b5159da7190812eebbbfde0a28890951ed67f68"), looks := true }, kinds := [], alts := [], laidByText := true, laidKinds := [.data, .data, .data], laidTests := true, laidLooks := .later }
def SsaRunsCardSaid : Prop := Claim7.holds Tryz.pinned (.plain (OpenSpec.ofChange ssaRunsSpec)) ssaRunsCard

/-- THE TIED CARD OF 'marquetrylaw15.SsaMay'. -/
def ssaMayCard : Claim7 := { stood := { row := ssaMayRow, standIns := [], harness := (true, "2046ed8f2e3c50a74101c90d1b5159da7190812eebbbfde0a28890951ed67f68"), looks := true }, kinds := [], alts := [], laidByText := true, laidKinds := [.data, .data, .data], laidTests := true, laidLooks := .later }
def SsaMayCardSaid : Prop := Claim7.holds Tryz.pinned (.plain (OpenSpec.ofChange ssaMaySpec)) ssaMayCard

/-- THE TIED CARD OF 'marquetrylaw15.SsaMakes'. -/
def ssaMakesCard : Claim7 := { stood := { row := ssaMakesRow, standIns := [], harness := (true, "2046ed8f2e3c50a74101c90d1b5159da7190812eebbbfde0a28890951ed67f68"), looks := true }, kinds := [], alts := [], laidByText := true, laidKinds := [.data, .data, .data], laidTests := true, laidLooks := .later }
def SsaMakesCardSaid : Prop := Claim7.holds Tryz.pinned (.plain (OpenSpec.ofChange ssaMakesSpec)) ssaMakesCard

/-- THE TIED CARD OF 'marquetrylaw15.SsaFuel'. -/
def ssaFuelCard : Claim7 := { stood := { row := ssaFuelRow, standIns := [], harness := (true, "2046ed8f2e3c50a74101c90d1b5159da7190812eebbbfde0a28890951ed67f68"), looks := true }, kinds := [], alts := [], laidByText := true, laidKinds := [.data, .data, .data], laidTests := true, laidLooks := .later }
def SsaFuelCardSaid : Prop := Claim7.holds Tryz.pinned (.plain (OpenSpec.ofChange ssaFuelSpec)) ssaFuelCard

/-- THE TIED CARD OF 'marquetrylaw15.SsaReads'. -/
def ssaReadsCard : Claim7 := { stood := { row := ssaReadsRow, standIns := [], harness := (true, "2046ed8f2e3c50a74101c90d1b5159da7190812eebbbfde0a28890951ed67f68"), looks := true }, kinds := [], alts := [], laidByText := true, laidKinds := [.data, .data, .data], laidTests := true, laidLooks := .later }
def SsaReadsCardSaid : Prop := Claim7.holds Tryz.pinned (.plain (OpenSpec.ofChange ssaReadsSpec)) ssaReadsCard

/-- THE TIED CARD OF 'marquetrylaw15.SsaNames'. -/
def ssaNamesCard : Claim7 := { stood := { row := ssaNamesRow, standIns := [], harness := (true, "2046ed8f2e3c50a74101c90d1b5159da7190812eebbbfde0a28890951ed67f68"), looks := true }, kinds := [], alts := [], laidByText := true, laidKinds := [.data, .data, .data], laidTests := true, laidLooks := .later }
def SsaNamesCardSaid : Prop := Claim7.holds Tryz.pinned (.plain (OpenSpec.ofChange ssaNamesSpec)) ssaNamesCard

/-- THE TIED CARD OF 'marquetrylaw15.SsaMeans'. -/
def ssaMeansCard : Claim7 := { stood := { row := ssaMeansRow, standIns := [], harness := (true, "2046ed8f2e3c50a74101c90d1b5159da7190812eebbbfde0a28890951ed67f68"), looks := true }, kinds := [], alts := [], laidByText := true, laidKinds := [.data, .data, .data], laidTests := true, laidLooks := .later }
def SsaMeansCardSaid : Prop := Claim7.holds Tryz.pinned (.plain (OpenSpec.ofChange ssaMeansSpec)) ssaMeansCard

/-- THE SECOND FORM's CARD OF 'marquetrylaw15.SsaRuns'. -/
def ssaRunsUptoCard : Claim7 := { stood := { row := ssaRunsUptoRow, standIns := [], harness := (true, "2046ed8f2e3c50a74101c90d1b5159da7190812eebbbfde0a28890951ed67f68"), looks := true }, kinds := [], alts := [], laidByText := true, laidKinds := [.data, .data, .data], laidTests := true, laidLooks := .later }
def SsaRunsUptoCardSaid : Prop := Claim7.holds Tryz.pinned (.plain (OpenSpec.upto ssaRunsSpec)) ssaRunsUptoCard

/-- THE SECOND FORM's CARD OF 'marquetrylaw15.SsaMay'. -/
def ssaMayUptoCard : Claim7 := { stood := { row := ssaMayUptoRow, standIns := [], harness := (true, "2046ed8f2e3c50a74101c90d1b5159da7190812eebbbfde0a28890951ed67f68"), looks := true }, kinds := [], alts := [], laidByText := true, laidKinds := [.data, .data, .data], laidTests := true, laidLooks := .later }
def SsaMayUptoCardSaid : Prop := Claim7.holds Tryz.pinned (.plain (OpenSpec.upto ssaMaySpec)) ssaMayUptoCard

/-- THE SECOND FORM's CARD OF 'marquetrylaw15.SsaMakes'. -/
def ssaMakesUptoCard : Claim7 := { stood := { row := ssaMakesUptoRow, standIns := [], harness := (true, "2046ed8f2e3c50a74101c90d1b5159da7190812eebbbfde0a28890951ed67f68"), looks := true }, kinds := [], alts := [], laidByText := true, laidKinds := [.data, .data, .data], laidTests := true, laidLooks := .later }
def SsaMakesUptoCardSaid : Prop := Claim7.holds Tryz.pinned (.plain (OpenSpec.upto ssaMakesSpec)) ssaMakesUptoCard

/-- THE SECOND FORM's CARD OF 'marquetrylaw15.SsaFuel'. -/
def ssaFuelUptoCard : Claim7 := { stood := { row := ssaFuelUptoRow, standIns := [], harness := (true, "2046ed8f2e3c50a74101c90d1b5159da7190812eebbbfde0a28890951ed67f68"), looks := true }, kinds := [], alts := [], laidByText := true, laidKinds := [.data, .data, .data], laidTests := true, laidLooks := .later }
def SsaFuelUptoCardSaid : Prop := Claim7.holds Tryz.pinned (.plain (OpenSpec.upto ssaFuelSpec)) ssaFuelUptoCard

/-- THE SECOND FORM's CARD OF 'marquetrylaw15.SsaReads'. -/
def ssaReadsUptoCard : Claim7 := { stood := { row := ssaReadsUptoRow, standIns := [], harness := (true, "2046ed8f2e3c50a74101c90d1b5159da7190812eebbbfde0a28890951ed67f68"), looks := true }, kinds := [], alts := [], laidByText := true, laidKinds := [.data, .data, .data], laidTests := true, laidLooks := .later }
def SsaReadsUptoCardSaid : Prop := Claim7.holds Tryz.pinned (.plain (OpenSpec.upto ssaReadsSpec)) ssaReadsUptoCard

/-- THE SECOND FORM's CARD OF 'marquetrylaw15.SsaNames'. -/
def ssaNamesUptoCard : Claim7 := { stood := { row := ssaNamesUptoRow, standIns := [], harness := (true, "2046ed8f2e3c50a74101c90d1b5159da7190812eebbbfde0a28890951ed67f68"), looks := true }, kinds := [], alts := [], laidByText := true, laidKinds := [.data, .data, .data], laidTests := true, laidLooks := .later }
def SsaNamesUptoCardSaid : Prop := Claim7.holds Tryz.pinned (.plain (OpenSpec.upto ssaNamesSpec)) ssaNamesUptoCard

/-- THE SECOND FORM's CARD OF 'marquetrylaw15.SsaMeans'. -/
def ssaMeansUptoCard : Claim7 := { stood := { row := ssaMeansUptoRow, standIns := [], harness := (true, "2046ed8f2e3c50a74101c90d1b5159da7190812eebbbfde0a28890951ed67f68"), looks := true }, kinds := [], alts := [], laidByText := true, laidKinds := [.data, .data, .data], laidTests := true, laidLooks := .later }
def SsaMeansUptoCardSaid : Prop := Claim7.holds Tryz.pinned (.plain (OpenSpec.upto ssaMeansSpec)) ssaMeansUptoCard
end Rows
end Go.Proofs.YtenlcdokaadobaaGreatDoor
