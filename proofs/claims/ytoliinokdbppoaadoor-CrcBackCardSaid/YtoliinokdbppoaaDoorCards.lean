/-
  DERIVED. GIVEN WITH THE SEED: THE CARDS: each row of YtoliinokdbppoaaDoorRows.lean that lists a variable, with what it lists TIED to the program's text (the seventh form; the later family's looks); each row that meets fmt, with fmt's text TOLD by the authors' own Lean function (tested against real Go, not proved from fmt's source: count such statements apart). THE CARD IS WHAT COUNTS. Prove the row's statement (the work); the ties are given (YtoliinokdbppoaaDoorTie.lean); close each card by the builder's one call (the guide's Derived/Test/ToyasCard.lean, 'card_holds'). Laid BY PROGRAM, IN A SANDBOX (cutbox-door.mjs). By AI agents, Wed Nov 11 2026. No macro, syntax, notation, axiom, sorry.
-/
import Derived.Test.YtoliinokdbppoaaDoorRows
import GoSem.ClaimSeven
namespace Go.Proofs.YtoliinokdbppoaaDoor
namespace Rows

/-- THE TIED CARD OF 'dragnetlaw01.CrcSums'. -/
def crcSumsCard : Claim7 := { stood := { row := crcSumsRow, standIns := [], harness := (true, "38d6c886d7f860346c2a5586cfb6dae8a9b7c811457f4ba24aaaaa6133dfb088"), looks := false }, kinds := [], alts := [], laidByText := true, laidKinds := [.data], laidTests := true, laidLooks := .later }
def CrcSumsCardSaid : Prop := Claim7.holds Tryd.pinned (.plain (OpenSpec.ofChange crcSumsSpec)) crcSumsCard

/-- THE TIED CARD OF 'dragnetlaw01.CrcWraps'. -/
def crcWrapsCard : Claim7 := { stood := { row := crcWrapsRow, standIns := [], harness := (true, "38d6c886d7f860346c2a5586cfb6dae8a9b7c811457f4ba24aaaaa6133dfb088"), looks := false }, kinds := [], alts := [], laidByText := true, laidKinds := [.data], laidTests := true, laidLooks := .later }
def CrcWrapsCardSaid : Prop := Claim7.holds Tryd.pinned (.plain (OpenSpec.ofChange crcWrapsSpec)) crcWrapsCard

/-- THE TIED CARD OF 'dragnetlaw01.CrcMore'. -/
def crcMoreCard : Claim7 := { stood := { row := crcMoreRow, standIns := [], harness := (true, "38d6c886d7f860346c2a5586cfb6dae8a9b7c811457f4ba24aaaaa6133dfb088"), looks := false }, kinds := [], alts := [], laidByText := true, laidKinds := [.data], laidTests := true, laidLooks := .later }
def CrcMoreCardSaid : Prop := Claim7.holds Tryd.pinned (.plain (OpenSpec.ofChange crcMoreSpec)) crcMoreCard

/-- THE TIED CARD OF 'dragnetlaw01.CrcUnwraps'. -/
def crcUnwrapsCard : Claim7 := { stood := { row := crcUnwrapsRow, standIns := [], harness := (true, "38d6c886d7f860346c2a5586cfb6dae8a9b7c811457f4ba24aaaaa6133dfb088"), looks := false }, kinds := [], alts := [], laidByText := true, laidKinds := [.data], laidTests := true, laidLooks := .later }
def CrcUnwrapsCardSaid : Prop := Claim7.holds Tryd.pinned (.plain (OpenSpec.ofChange crcUnwrapsSpec)) crcUnwrapsCard

/-- THE TIED CARD OF 'dragnetlaw01.CrcBurst'. -/
def crcBurstCard : Claim7 := { stood := { row := crcBurstRow, standIns := [], harness := (true, "38d6c886d7f860346c2a5586cfb6dae8a9b7c811457f4ba24aaaaa6133dfb088"), looks := false }, kinds := [], alts := [], laidByText := true, laidKinds := [.data], laidTests := true, laidLooks := .later }
def CrcBurstCardSaid : Prop := Claim7.holds Tryd.pinned (.plain (OpenSpec.ofChange crcBurstSpec)) crcBurstCard

/-- THE TIED CARD OF 'dragnetlaw01.CrcSplits'. -/
def crcSplitsCard : Claim7 := { stood := { row := crcSplitsRow, standIns := [], harness := (true, "38d6c886d7f860346c2a5586cfb6dae8a9b7c811457f4ba24aaaaa6133dfb088"), looks := false }, kinds := [], alts := [], laidByText := true, laidKinds := [.data], laidTests := true, laidLooks := .later }
def CrcSplitsCardSaid : Prop := Claim7.holds Tryd.pinned (.plain (OpenSpec.ofChange crcSplitsSpec)) crcSplitsCard

/-- THE TIED CARD OF 'dragnetlaw01.CrcBack'. -/
def crcBackCard : Claim7 := { stood := { row := crcBackRow, standIns := [], harness := (true, "38d6c886d7f860346c2a5586cfb6dae8a9b7c811457f4ba24aaaaa6133dfb088"), looks := false }, kinds := [], alts := [], laidByText := true, laidKinds := [.data], laidTests := true, laidLooks := .later }
def CrcBackCardSaid : Prop := Claim7.holds Tryd.pinned (.plain (OpenSpec.ofChange crcBackSpec)) crcBackCard

/-- THE SECOND FORM's CARD OF 'dragnetlaw01.CrcSums'. -/
def crcSumsUptoCard : Claim7 := { stood := { row := crcSumsUptoRow, standIns := [], harness := (true, "38d6c886d7f860346c2a5586cfb6dae8a9b7c811457f4ba24aaaaa6133dfb088"), looks := false }, kinds := [], alts := [], laidByText := true, laidKinds := [.data], laidTests := true, laidLooks := .later }
def CrcSumsUptoCardSaid : Prop := Claim7.holds Tryd.pinned (.plain (OpenSpec.upto crcSumsSpec)) crcSumsUptoCard

/-- THE SECOND FORM's CARD OF 'dragnetlaw01.CrcWraps'. -/
def crcWrapsUptoCard : Claim7 := { stood := { row := crcWrapsUptoRow, standIns := [], harness := (true, "38d6c886d7f860346c2a5586cfb6dae8a9b7c811457f4ba24aaaaa6133dfb088"), looks := false }, kinds := [], alts := [], laidByText := true, laidKinds := [.data], laidTests := true, laidLooks := .later }
def CrcWrapsUptoCardSaid : Prop := Claim7.holds Tryd.pinned (.plain (OpenSpec.upto crcWrapsSpec)) crcWrapsUptoCard

/-- THE SECOND FORM's CARD OF 'dragnetlaw01.CrcMore'. -/
def crcMoreUptoCard : Claim7 := { stood := { row := crcMoreUptoRow, standIns := [], harness := (true, "38d6c886d7f860346c2a5586cfb6dae8a9b7c811457f4ba24aaaaa6133dfb088"), looks := false }, kinds := [], alts := [], laidByText := true, laidKinds := [.data], laidTests := true, laidLooks := .later }
def CrcMoreUptoCardSaid : Prop := Claim7.holds Tryd.pinned (.plain (OpenSpec.upto crcMoreSpec)) crcMoreUptoCard

/-- THE SECOND FORM's CARD OF 'dragnetlaw01.CrcUnwraps'. -/
def crcUnwrapsUptoCard : Claim7 := { stood := { row := crcUnwrapsUptoRow, standIns := [], harness := (true, "38d6c886d7f860346c2a5586cfb6dae8a9b7c811457f4ba24aaaaa6133dfb088"), looks := false }, kinds := [], alts := [], laidByText := true, laidKinds := [.data], laidTests := true, laidLooks := .later }
def CrcUnwrapsUptoCardSaid : Prop := Claim7.holds Tryd.pinned (.plain (OpenSpec.upto crcUnwrapsSpec)) crcUnwrapsUptoCard

/-- THE SECOND FORM's CARD OF 'dragnetlaw01.CrcBurst'. -/
def crcBurstUptoCard : Claim7 := { stood := { row := crcBurstUptoRow, standIns := [], harness := (true, "38d6c886d7f860346c2a5586cfb6dae8a9b7c811457f4ba24aaaaa6133dfb088"), looks := false }, kinds := [], alts := [], laidByText := true, laidKinds := [.data], laidTests := true, laidLooks := .later }
def CrcBurstUptoCardSaid : Prop := Claim7.holds Tryd.pinned (.plain (OpenSpec.upto crcBurstSpec)) crcBurstUptoCard

/-- THE SECOND FORM's CARD OF 'dragnetlaw01.CrcSplits'. -/
def crcSplitsUptoCard : Claim7 := { stood := { row := crcSplitsUptoRow, standIns := [], harness := (true, "38d6c886d7f860346c2a5586cfb6dae8a9b7c811457f4ba24aaaaa6133dfb088"), looks := false }, kinds := [], alts := [], laidByText := true, laidKinds := [.data], laidTests := true, laidLooks := .later }
def CrcSplitsUptoCardSaid : Prop := Claim7.holds Tryd.pinned (.plain (OpenSpec.upto crcSplitsSpec)) crcSplitsUptoCard

/-- THE SECOND FORM's CARD OF 'dragnetlaw01.CrcBack'. -/
def crcBackUptoCard : Claim7 := { stood := { row := crcBackUptoRow, standIns := [], harness := (true, "38d6c886d7f860346c2a5586cfb6dae8a9b7c811457f4ba24aaaaa6133dfb088"), looks := false }, kinds := [], alts := [], laidByText := true, laidKinds := [.data], laidTests := true, laidLooks := .later }
def CrcBackUptoCardSaid : Prop := Claim7.holds Tryd.pinned (.plain (OpenSpec.upto crcBackSpec)) crcBackUptoCard
end Rows
end Go.Proofs.YtoliinokdbppoaaDoor
