/-
  DERIVED. GIVEN WITH THE SEED: THE CARDS: each row of YtdcifmonhaklcaaDoorRows.lean that lists a variable, with what it lists TIED to the program's text (the seventh form; the later family's looks); each row that meets fmt, with fmt's text TOLD by the authors' own Lean function (tested against real Go, not proved from fmt's source: count such statements apart). THE CARD IS WHAT COUNTS. Prove the row's statement (the work); the ties are given (YtdcifmonhaklcaaDoorTie.lean); close each card by the builder's one call (the guide's Derived/Test/ToyasCard.lean, 'card_holds'). Laid BY PROGRAM, IN A SANDBOX (cutbox-door.mjs). By AI agents, Wed Nov 11 2026. No macro, syntax, notation, axiom, sorry.
-/
import Derived.Test.YtdcifmonhaklcaaDoorRows
import GoSem.ClaimSeven
namespace Go.Proofs.YtdcifmonhaklcaaDoor
namespace Rows

/-- THE TIED CARD OF 'dragnetlaw18.ManifestTakes'. -/
def manifestTakesCard : Claim7 := { stood := { row := manifestTakesRow, standIns := [], harness := (true, "094459fc607c2fb706fef0d49f09d867386da76c9ebfe2722f2fbae0b7603d4c"), looks := false }, kinds := [], alts := [], laidByText := true, laidKinds := [.data, .data, .data, .data], laidTests := true, laidLooks := .later }
def ManifestTakesCardSaid : Prop := Claim7.holds Tryd.pinned (.plain (OpenSpec.ofChange manifestTakesSpec)) manifestTakesCard

/-- THE TIED CARD OF 'dragnetlaw18.ManifestBack'. -/
def manifestBackCard : Claim7 := { stood := { row := manifestBackRow, standIns := [], harness := (true, "094459fc607c2fb706fef0d49f09d867386da76c9ebfe2722f2fbae0b7603d4c"), looks := false }, kinds := [], alts := [], laidByText := true, laidKinds := [.data, .data, .data, .data], laidTests := true, laidLooks := .later }
def ManifestBackCardSaid : Prop := Claim7.holds Tryd.pinned (.plain (OpenSpec.ofChange manifestBackSpec)) manifestBackCard

/-- THE TIED CARD OF 'dragnetlaw18.ManifestNames'. -/
def manifestNamesCard : Claim7 := { stood := { row := manifestNamesRow, standIns := [], harness := (true, "094459fc607c2fb706fef0d49f09d867386da76c9ebfe2722f2fbae0b7603d4c"), looks := false }, kinds := [], alts := [], laidByText := true, laidKinds := [.data, .data, .data, .data], laidTests := true, laidLooks := .later }
def ManifestNamesCardSaid : Prop := Claim7.holds Tryd.pinned (.plain (OpenSpec.ofChange manifestNamesSpec)) manifestNamesCard

/-- THE TIED CARD OF 'dragnetlaw18.ManifestPuts'. -/
def manifestPutsCard : Claim7 := { stood := { row := manifestPutsRow, standIns := [], harness := (true, "094459fc607c2fb706fef0d49f09d867386da76c9ebfe2722f2fbae0b7603d4c"), looks := false }, kinds := [], alts := [], laidByText := true, laidKinds := [.data, .data, .data, .data], laidTests := true, laidLooks := .later }
def ManifestPutsCardSaid : Prop := Claim7.holds Tryd.pinned (.plain (OpenSpec.ofChange manifestPutsSpec)) manifestPutsCard

/-- THE TIED CARD OF 'dragnetlaw18.ManifestRecovers'. -/
def manifestRecoversCard : Claim7 := { stood := { row := manifestRecoversRow, standIns := [], harness := (true, "094459fc607c2fb706fef0d49f09d867386da76c9ebfe2722f2fbae0b7603d4c"), looks := false }, kinds := [], alts := [], laidByText := true, laidKinds := [.data, .data, .data, .data], laidTests := true, laidLooks := .later }
def ManifestRecoversCardSaid : Prop := Claim7.holds Tryd.pinned (.plain (OpenSpec.ofChange manifestRecoversSpec)) manifestRecoversCard

/-- THE TIED CARD OF 'dragnetlaw18.ManifestAll'. -/
def manifestAllCard : Claim7 := { stood := { row := manifestAllRow, standIns := [], harness := (true, "094459fc607c2fb706fef0d49f09d867386da76c9ebfe2722f2fbae0b7603d4c"), looks := false }, kinds := [], alts := [], laidByText := true, laidKinds := [.data, .data, .data, .data], laidTests := true, laidLooks := .later }
def ManifestAllCardSaid : Prop := Claim7.holds Tryd.pinned (.plain (OpenSpec.ofChange manifestAllSpec)) manifestAllCard

/-- THE SECOND FORM's CARD OF 'dragnetlaw18.ManifestTakes'. -/
def manifestTakesUptoCard : Claim7 := { stood := { row := manifestTakesUptoRow, standIns := [], harness := (true, "094459fc607c2fb706fef0d49f09d867386da76c9ebfe2722f2fbae0b7603d4c"), looks := false }, kinds := [], alts := [], laidByText := true, laidKinds := [.data, .data, .data, .data], laidTests := true, laidLooks := .later }
def ManifestTakesUptoCardSaid : Prop := Claim7.holds Tryd.pinned (.plain (OpenSpec.upto manifestTakesSpec)) manifestTakesUptoCard

/-- THE SECOND FORM's CARD OF 'dragnetlaw18.ManifestBack'. -/
def manifestBackUptoCard : Claim7 := { stood := { row := manifestBackUptoRow, standIns := [], harness := (true, "094459fc607c2fb706fef0d49f09d867386da76c9ebfe2722f2fbae0b7603d4c"), looks := false }, kinds := [], alts := [], laidByText := true, laidKinds := [.data, .data, .data, .data], laidTests := true, laidLooks := .later }
def ManifestBackUptoCardSaid : Prop := Claim7.holds Tryd.pinned (.plain (OpenSpec.upto manifestBackSpec)) manifestBackUptoCard

/-- THE SECOND FORM's CARD OF 'dragnetlaw18.ManifestNames'. -/
def manifestNamesUptoCard : Claim7 := { stood := { row := manifestNamesUptoRow, standIns := [], harness := (true, "094459fc607c2fb706fef0d49f09d867386da76c9ebfe2722f2fbae0b7603d4c"), looks := false }, kinds := [], alts := [], laidByText := true, laidKinds := [.data, .data, .data, .data], laidTests := true, laidLooks := .later }
def ManifestNamesUptoCardSaid : Prop := Claim7.holds Tryd.pinned (.plain (OpenSpec.upto manifestNamesSpec)) manifestNamesUptoCard

/-- THE SECOND FORM's CARD OF 'dragnetlaw18.ManifestPuts'. -/
def manifestPutsUptoCard : Claim7 := { stood := { row := manifestPutsUptoRow, standIns := [], harness := (true, "094459fc607c2fb706fef0d49f09d867386da76c9ebfe2722f2fbae0b7603d4c"), looks := false }, kinds := [], alts := [], laidByText := true, laidKinds := [.data, .data, .data, .data], laidTests := true, laidLooks := .later }
def ManifestPutsUptoCardSaid : Prop := Claim7.holds Tryd.pinned (.plain (OpenSpec.upto manifestPutsSpec)) manifestPutsUptoCard

/-- THE SECOND FORM's CARD OF 'dragnetlaw18.ManifestRecovers'. -/
def manifestRecoversUptoCard : Claim7 := { stood := { row := manifestRecoversUptoRow, standIns := [], harness := (true, "094459fc607c2fb706fef0d49f09d867386da76c9ebfe2722f2fbae0b7603d4c"), looks := false }, kinds := [], alts := [], laidByText := true, laidKinds := [.data, .data, .data, .data], laidTests := true, laidLooks := .later }
def ManifestRecoversUptoCardSaid : Prop := Claim7.holds Tryd.pinned (.plain (OpenSpec.upto manifestRecoversSpec)) manifestRecoversUptoCard

/-- THE SECOND FORM's CARD OF 'dragnetlaw18.ManifestAll'. -/
def manifestAllUptoCard : Claim7 := { stood := { row := manifestAllUptoRow, standIns := [], harness := (true, "094459fc607c2fb706fef0d49f09d867386da76c9ebfe2722f2fbae0b7603d4c"), looks := false }, kinds := [], alts := [], laidByText := true, laidKinds := [.data, .data, .data, .data], laidTests := true, laidLooks := .later }
def ManifestAllUptoCardSaid : Prop := Claim7.holds Tryd.pinned (.plain (OpenSpec.upto manifestAllSpec)) manifestAllUptoCard
end Rows
end Go.Proofs.YtdcifmonhaklcaaDoor
