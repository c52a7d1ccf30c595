/-
  DERIVED. GIVEN WITH THE SEED: THE CARDS: each row of YtnkcmlkehholhaaDoorRows.lean that lists a variable, with what it lists TIED to the program's text (the seventh form; the later family's looks); each row that meets fmt, with fmt's text TOLD by the authors' own Lean function (tested against real Go, not proved from fmt's source: count such statements apart). THE CARD IS WHAT COUNTS. Prove the row's statement (the work); the ties are given (YtnkcmlkehholhaaDoorTie.lean); close each card by the builder's one call (the guide's Derived/Test/ToyasCard.lean, 'card_holds'). Laid BY PROGRAM, IN A SANDBOX (cutbox-door.mjs). By AI agents, Wed Nov 11 2026. No macro, syntax, notation, axiom, sorry.
-/
import Derived.Test.YtnkcmlkehholhaaDoorRows
import GoSem.ClaimSeven
namespace Go.Proofs.YtnkcmlkehholhaaDoor
namespace Rows

/-- THE TIED CARD OF 'rootstocklaw02.CrcSums'. -/
def crcSumsCard : Claim7 := { stood := { row := crcSumsRow, standIns := [], harness := (true, "a310fc5a948420f7760abc043c6544b3936cbf2923a7859beebe322e23b12678"), looks := false }, kinds := [], alts := [], laidByText := true, laidKinds := [.data], laidTests := true, laidLooks := .later }
def CrcSumsCardSaid : Prop := Claim7.holds Tryd.pinned (.plain (OpenSpec.ofChange crcSumsSpec)) crcSumsCard

/-- THE TIED CARD OF 'rootstocklaw02.CrcParts'. -/
def crcPartsCard : Claim7 := { stood := { row := crcPartsRow, standIns := [], harness := (true, "a310fc5a948420f7760abc043c6544b3936cbf2923a7859beebe322e23b12678"), looks := false }, kinds := [], alts := [], laidByText := true, laidKinds := [.data], laidTests := true, laidLooks := .later }
def CrcPartsCardSaid : Prop := Claim7.holds Tryd.pinned (.plain (OpenSpec.ofChange crcPartsSpec)) crcPartsCard

/-- THE TIED CARD OF 'rootstocklaw02.CrcHarm'. -/
def crcHarmCard : Claim7 := { stood := { row := crcHarmRow, standIns := [], harness := (true, "a310fc5a948420f7760abc043c6544b3936cbf2923a7859beebe322e23b12678"), looks := false }, kinds := [], alts := [], laidByText := true, laidKinds := [.data], laidTests := true, laidLooks := .later }
def CrcHarmCardSaid : Prop := Claim7.holds Tryd.pinned (.plain (OpenSpec.ofChange crcHarmSpec)) crcHarmCard

/-- THE TIED CARD OF 'rootstocklaw02.CrcSteps'. -/
def crcStepsCard : Claim7 := { stood := { row := crcStepsRow, standIns := [], harness := (true, "a310fc5a948420f7760abc043c6544b3936cbf2923a7859beebe322e23b12678"), looks := false }, kinds := [], alts := [], laidByText := true, laidKinds := [.data], laidTests := true, laidLooks := .later }
def CrcStepsCardSaid : Prop := Claim7.holds Tryd.pinned (.plain (OpenSpec.ofChange crcStepsSpec)) crcStepsCard

/-- THE TIED CARD OF 'rootstocklaw02.CrcFolds'. -/
def crcFoldsCard : Claim7 := { stood := { row := crcFoldsRow, standIns := [], harness := (true, "a310fc5a948420f7760abc043c6544b3936cbf2923a7859beebe322e23b12678"), looks := false }, kinds := [], alts := [], laidByText := true, laidKinds := [.data], laidTests := true, laidLooks := .later }
def CrcFoldsCardSaid : Prop := Claim7.holds Tryd.pinned (.plain (OpenSpec.ofChange crcFoldsSpec)) crcFoldsCard

/-- THE SECOND FORM's CARD OF 'rootstocklaw02.CrcSums'. -/
def crcSumsUptoCard : Claim7 := { stood := { row := crcSumsUptoRow, standIns := [], harness := (true, "a310fc5a948420f7760abc043c6544b3936cbf2923a7859beebe322e23b12678"), looks := false }, kinds := [], alts := [], laidByText := true, laidKinds := [.data], laidTests := true, laidLooks := .later }
def CrcSumsUptoCardSaid : Prop := Claim7.holds Tryd.pinned (.plain (OpenSpec.upto crcSumsSpec)) crcSumsUptoCard

/-- THE SECOND FORM's CARD OF 'rootstocklaw02.CrcParts'. -/
def crcPartsUptoCard : Claim7 := { stood := { row := crcPartsUptoRow, standIns := [], harness := (true, "a310fc5a948420f7760abc043c6544b3936cbf2923a7859beebe322e23b12678"), looks := false }, kinds := [], alts := [], laidByText := true, laidKinds := [.data], laidTests := true, laidLooks := .later }
def CrcPartsUptoCardSaid : Prop := Claim7.holds Tryd.pinned (.plain (OpenSpec.upto crcPartsSpec)) crcPartsUptoCard

/-- THE SECOND FORM's CARD OF 'rootstocklaw02.CrcHarm'. -/
def crcHarmUptoCard : Claim7 := { stood := { row := crcHarmUptoRow, standIns := [], harness := (true, "a310fc5a948420f7760abc043c6544b3936cbf2923a7859beebe322e23b12678"), looks := false }, kinds := [], alts := [], laidByText := true, laidKinds := [.data], laidTests := true, laidLooks := .later }
def CrcHarmUptoCardSaid : Prop := Claim7.holds Tryd.pinned (.plain (OpenSpec.upto crcHarmSpec)) crcHarmUptoCard

/-- THE SECOND FORM's CARD OF 'rootstocklaw02.CrcSteps'. -/
def crcStepsUptoCard : Claim7 := { stood := { row := crcStepsUptoRow, standIns := [], harness := (true, "a310fc5a948420f7760abc043c6544b3936cbf2923a7859beebe322e23b12678"), looks := false }, kinds := [], alts := [], laidByText := true, laidKinds := [.data], laidTests := true, laidLooks := .later }
def CrcStepsUptoCardSaid : Prop := Claim7.holds Tryd.pinned (.plain (OpenSpec.upto crcStepsSpec)) crcStepsUptoCard

/-- THE SECOND FORM's CARD OF 'rootstocklaw02.CrcFolds'. -/
def crcFoldsUptoCard : Claim7 := { stood := { row := crcFoldsUptoRow, standIns := [], harness := (true, "a310fc5a948420f7760abc043c6544b3936cbf2923a7859beebe322e23b12678"), looks := false }, kinds := [], alts := [], laidByText := true, laidKinds := [.data], laidTests := true, laidLooks := .later }
def CrcFoldsUptoCardSaid : Prop := Claim7.holds Tryd.pinned (.plain (OpenSpec.upto crcFoldsSpec)) crcFoldsUptoCard
end Rows
end Go.Proofs.YtnkcmlkehholhaaDoor
