/-
  NARROWER THAN 'FOR EVERY INPUT', by the rows' own cells (each row's printed sentence says how): CrcSums: laid · CrcParts: laid · CrcHarm: laid · CrcSteps: laid · CrcFolds: laid.
  DERIVED. THE GIVEN ROWS OF THIS SEAT. 5 by the template 'for every input the law returns true; each argument reads behind the call as it read before'; 0 by the template 'total and deterministic' (their statements: YtnkcmlkehholhaaDoorTotals.lean).
  GIVEN WITH THE SEED: the statements are not yours to turn. If you find one false, say at which input.
  Laid BY PROGRAM, IN A SANDBOX (cutbox-rows.mjs): the forced cells as the released guide's own fill.sh prints them over the translation 1a00225fbcf7ad6a… (all of the seat's roots in one cut). By AI agents, Wed Nov 11 2026. No macro, syntax, notation, axiom, sorry.
-/
import Derived.Test.YtnkcmlkehholhaaDoorChecked
import GoSem.Claim
import GoSem.ClaimJoined
import GoSem.ClaimMapViews
import Derived.JoinedTies
import Derived.KernelRfl
namespace Go.Proofs.YtnkcmlkehholhaaDoor
/- THE CELL 'sum', in the pinned program and in every row, IS THE sha256 OF THE DUMP (.gsa) THAT YtnkcmlkehholhaaDoorProg.lean LOADS. Nothing in Lean hashes anything: it is a label: what it is worth is what the hold of that sum in a sandbox is worth. -/
noncomputable def Tryd.pinned : Pinned := { name := "ytnkcmlkehholhaadoor", sum := "1a00225fbcf7ad6a7975fc84c373be76c7fecdceafb559a731045698119e1c9b", checked := Tryd.checked }
namespace Rows
def none {H : Type} : Left H := { results := [], args := [] }

/- WHAT THE LISTED PACKAGE-LEVEL VARIABLES READ AS WHEN THE CALL BEGINS. Each datum BY PROGRAM (the guide's laid-datum.mjs) off the statement by which the dump's own 'gosem.cut.vars' lays the variable. In a bare row this is a premise. The card (YtnkcmlkehholhaaDoorCards.lean) ties it to the program's text. -/
def laid_rootstock_crc_halves {H : Type} : DataW H := .agg [.lit (.int .u32 0), .lit (.int .u32 498536548), .lit (.int .u32 997073096), .lit (.int .u32 651767980), .lit (.int .u32 1994146192), .lit (.int .u32 1802195444), .lit (.int .u32 1303535960), .lit (.int .u32 1342533948), .lit (.int .u32 3988292384), .lit (.int .u32 4027552580), .lit (.int .u32 3604390888), .lit (.int .u32 3412177804), .lit (.int .u32 2607071920), .lit (.int .u32 2262029012), .lit (.int .u32 2685067896), .lit (.int .u32 3183342108)]

/-- 'rootstocklaw02.CrcSums': WHATEVER THE INPUT: true; the input reads as it did. -/
def crcSumsSpec : ChangeSpec := { name := "crcSums", fn := fun _ => fun
  | [d1, d2, d3] => { results := [.lit (.bool true)], args := [d1, d2, d3] }
  | _ => none }
def crcSumsRow : OpenClaim := { program := "ytnkcmlkehholhaadoor", sum := "1a00225fbcf7ad6a7975fc84c373be76c7fecdceafb559a731045698119e1c9b", func := "rootstock/rootstocklaw02.CrcSums", spec := "crcSums", named := ["rootstock/crc.halves"], apart := false, laid := [("rootstock/crc.halves", laid_rootstock_crc_halves)] }
def CrcSumsSaid : Prop := crcSumsRow.holds Tryd.pinned (OpenSpec.ofChange crcSumsSpec)

/-- ITS FALSE NEIGHBOUR: 'it returns false'. Refute it at one input. -/
def crcSumsWrong : ChangeSpec := { name := "crcSums", fn := fun _ => fun
  | [d1, d2, d3] => { results := [.lit (.bool false)], args := [d1, d2, d3] }
  | _ => none }
def CrcSumsWrongFalsely : Prop := crcSumsRow.holds Tryd.pinned (OpenSpec.ofChange crcSumsWrong)

/-- 'rootstocklaw02.CrcParts': WHATEVER THE INPUT: true; the input reads as it did. -/
def crcPartsSpec : ChangeSpec := { name := "crcParts", fn := fun _ => fun
  | [d1, d2] => { results := [.lit (.bool true)], args := [d1, d2] }
  | _ => none }
def crcPartsRow : OpenClaim := { program := "ytnkcmlkehholhaadoor", sum := "1a00225fbcf7ad6a7975fc84c373be76c7fecdceafb559a731045698119e1c9b", func := "rootstock/rootstocklaw02.CrcParts", spec := "crcParts", named := ["rootstock/crc.halves"], apart := false, laid := [("rootstock/crc.halves", laid_rootstock_crc_halves)] }
def CrcPartsSaid : Prop := crcPartsRow.holds Tryd.pinned (OpenSpec.ofChange crcPartsSpec)

/-- ITS FALSE NEIGHBOUR: 'it returns false'. Refute it at one input. -/
def crcPartsWrong : ChangeSpec := { name := "crcParts", fn := fun _ => fun
  | [d1, d2] => { results := [.lit (.bool false)], args := [d1, d2] }
  | _ => none }
def CrcPartsWrongFalsely : Prop := crcPartsRow.holds Tryd.pinned (OpenSpec.ofChange crcPartsWrong)

/-- 'rootstocklaw02.CrcHarm': WHATEVER THE INPUT: true; the input reads as it did. -/
def crcHarmSpec : ChangeSpec := { name := "crcHarm", fn := fun _ => fun
  | [d1, d2, d3, d4, d5, d6] => { results := [.lit (.bool true)], args := [d1, d2, d3, d4, d5, d6] }
  | _ => none }
def crcHarmRow : OpenClaim := { program := "ytnkcmlkehholhaadoor", sum := "1a00225fbcf7ad6a7975fc84c373be76c7fecdceafb559a731045698119e1c9b", func := "rootstock/rootstocklaw02.CrcHarm", spec := "crcHarm", named := ["rootstock/crc.halves"], apart := false, laid := [("rootstock/crc.halves", laid_rootstock_crc_halves)] }
def CrcHarmSaid : Prop := crcHarmRow.holds Tryd.pinned (OpenSpec.ofChange crcHarmSpec)

/-- ITS FALSE NEIGHBOUR: 'it returns false'. Refute it at one input. -/
def crcHarmWrong : ChangeSpec := { name := "crcHarm", fn := fun _ => fun
  | [d1, d2, d3, d4, d5, d6] => { results := [.lit (.bool false)], args := [d1, d2, d3, d4, d5, d6] }
  | _ => none }
def CrcHarmWrongFalsely : Prop := crcHarmRow.holds Tryd.pinned (OpenSpec.ofChange crcHarmWrong)

/-- 'rootstocklaw02.CrcSteps': WHATEVER THE INPUT: true; the input reads as it did. -/
def crcStepsSpec : ChangeSpec := { name := "crcSteps", fn := fun _ => fun
  | [d1, d2, d3, d4] => { results := [.lit (.bool true)], args := [d1, d2, d3, d4] }
  | _ => none }
def crcStepsRow : OpenClaim := { program := "ytnkcmlkehholhaadoor", sum := "1a00225fbcf7ad6a7975fc84c373be76c7fecdceafb559a731045698119e1c9b", func := "rootstock/rootstocklaw02.CrcSteps", spec := "crcSteps", named := ["rootstock/crc.halves"], apart := false, laid := [("rootstock/crc.halves", laid_rootstock_crc_halves)] }
def CrcStepsSaid : Prop := crcStepsRow.holds Tryd.pinned (OpenSpec.ofChange crcStepsSpec)

/-- ITS FALSE NEIGHBOUR: 'it returns false'. Refute it at one input. -/
def crcStepsWrong : ChangeSpec := { name := "crcSteps", fn := fun _ => fun
  | [d1, d2, d3, d4] => { results := [.lit (.bool false)], args := [d1, d2, d3, d4] }
  | _ => none }
def CrcStepsWrongFalsely : Prop := crcStepsRow.holds Tryd.pinned (OpenSpec.ofChange crcStepsWrong)

/-- 'rootstocklaw02.CrcFolds': WHATEVER THE INPUT: true; the input reads as it did. -/
def crcFoldsSpec : ChangeSpec := { name := "crcFolds", fn := fun _ => fun
  | [d1, d2] => { results := [.lit (.bool true)], args := [d1, d2] }
  | _ => none }
def crcFoldsRow : OpenClaim := { program := "ytnkcmlkehholhaadoor", sum := "1a00225fbcf7ad6a7975fc84c373be76c7fecdceafb559a731045698119e1c9b", func := "rootstock/rootstocklaw02.CrcFolds", spec := "crcFolds", named := ["rootstock/crc.halves"], apart := false, laid := [("rootstock/crc.halves", laid_rootstock_crc_halves)] }
def CrcFoldsSaid : Prop := crcFoldsRow.holds Tryd.pinned (OpenSpec.ofChange crcFoldsSpec)

/-- ITS FALSE NEIGHBOUR: 'it returns false'. Refute it at one input. -/
def crcFoldsWrong : ChangeSpec := { name := "crcFolds", fn := fun _ => fun
  | [d1, d2] => { results := [.lit (.bool false)], args := [d1, d2] }
  | _ => none }
def CrcFoldsWrongFalsely : Prop := crcFoldsRow.holds Tryd.pinned (OpenSpec.ofChange crcFoldsWrong)

/- THE SECOND FORM. 'bulk': how many values and letters a reading holds, each counted each time it is reached (what is shared counts as often as it is met; a slice's spare places count too). A statement '..UptoSaid' is the law's where the arguments, and the package variables that the reading takes, are together of bulk at most 1048576: NARROWER than '..Said'. Prove '..Said' where nothing that the law and all that it calls make is longer than what came in: it says more and counts as full. Else prove '..UptoSaid'. A law counts once. -/
mutual
def uptoBulk {H : Type} : DataW H → Nat
  | .lit (.string bytes) => bytes.length + 1
  | .lit _ => 1
  | .nil => 1
  | .ptr d => uptoBulk d + 1
  | .slice elems spare => uptoBulkAll elems + uptoBulkAll spare + 1
  | .agg parts => uptoBulkAll parts + 1
  | .iface _ d => uptoBulk d + 1
  | .map entries => uptoBulkEntries entries + 1
  | .held _ => 1
def uptoBulkAll {H : Type} : List (DataW H) → Nat
  | [] => 0
  | d :: r => uptoBulk d + uptoBulkAll r
def uptoBulkEntries {H : Type} : List (Lit × DataW H) → Nat
  | [] => 0
  | x :: r => uptoBulkEntry x + uptoBulkEntries r
def uptoBulkEntry {H : Type} : Lit × DataW H → Nat
  | (.string bytes, d) => bytes.length + uptoBulk d + 1
  | (_, d) => uptoBulk d + 1
 end
def uptoSmall : (H : Type) → List (DataW H) → Bool := fun _ ds => decide (uptoBulkAll ds ≤ 1048576)
def OpenSpec.upto (s : _root_.Go.ChangeSpec) : _root_.Go.OpenSpec := { _root_.Go.OpenSpec.ofChange s with cond := some uptoSmall }

/-- 'rootstocklaw02.CrcSums', WHERE WHAT IT READS IS OF BULK AT MOST 1048576: true; the input reads as it did. -/
def crcSumsUptoRow : OpenClaim := { program := "ytnkcmlkehholhaadoor", sum := "1a00225fbcf7ad6a7975fc84c373be76c7fecdceafb559a731045698119e1c9b", func := "rootstock/rootstocklaw02.CrcSums", spec := "crcSums", named := ["rootstock/crc.halves"], apart := false, laid := [("rootstock/crc.halves", laid_rootstock_crc_halves)], narrowed := true }
def CrcSumsUptoSaid : Prop := crcSumsUptoRow.holds Tryd.pinned (OpenSpec.upto crcSumsSpec)

/-- 'rootstocklaw02.CrcParts', WHERE WHAT IT READS IS OF BULK AT MOST 1048576: true; the input reads as it did. -/
def crcPartsUptoRow : OpenClaim := { program := "ytnkcmlkehholhaadoor", sum := "1a00225fbcf7ad6a7975fc84c373be76c7fecdceafb559a731045698119e1c9b", func := "rootstock/rootstocklaw02.CrcParts", spec := "crcParts", named := ["rootstock/crc.halves"], apart := false, laid := [("rootstock/crc.halves", laid_rootstock_crc_halves)], narrowed := true }
def CrcPartsUptoSaid : Prop := crcPartsUptoRow.holds Tryd.pinned (OpenSpec.upto crcPartsSpec)

/-- 'rootstocklaw02.CrcHarm', WHERE WHAT IT READS IS OF BULK AT MOST 1048576: true; the input reads as it did. -/
def crcHarmUptoRow : OpenClaim := { program := "ytnkcmlkehholhaadoor", sum := "1a00225fbcf7ad6a7975fc84c373be76c7fecdceafb559a731045698119e1c9b", func := "rootstock/rootstocklaw02.CrcHarm", spec := "crcHarm", named := ["rootstock/crc.halves"], apart := false, laid := [("rootstock/crc.halves", laid_rootstock_crc_halves)], narrowed := true }
def CrcHarmUptoSaid : Prop := crcHarmUptoRow.holds Tryd.pinned (OpenSpec.upto crcHarmSpec)

/-- 'rootstocklaw02.CrcSteps', WHERE WHAT IT READS IS OF BULK AT MOST 1048576: true; the input reads as it did. -/
def crcStepsUptoRow : OpenClaim := { program := "ytnkcmlkehholhaadoor", sum := "1a00225fbcf7ad6a7975fc84c373be76c7fecdceafb559a731045698119e1c9b", func := "rootstock/rootstocklaw02.CrcSteps", spec := "crcSteps", named := ["rootstock/crc.halves"], apart := false, laid := [("rootstock/crc.halves", laid_rootstock_crc_halves)], narrowed := true }
def CrcStepsUptoSaid : Prop := crcStepsUptoRow.holds Tryd.pinned (OpenSpec.upto crcStepsSpec)

/-- 'rootstocklaw02.CrcFolds', WHERE WHAT IT READS IS OF BULK AT MOST 1048576: true; the input reads as it did. -/
def crcFoldsUptoRow : OpenClaim := { program := "ytnkcmlkehholhaadoor", sum := "1a00225fbcf7ad6a7975fc84c373be76c7fecdceafb559a731045698119e1c9b", func := "rootstock/rootstocklaw02.CrcFolds", spec := "crcFolds", named := ["rootstock/crc.halves"], apart := false, laid := [("rootstock/crc.halves", laid_rootstock_crc_halves)], narrowed := true }
def CrcFoldsUptoSaid : Prop := crcFoldsUptoRow.holds Tryd.pinned (OpenSpec.upto crcFoldsSpec)

end Rows
end Go.Proofs.YtnkcmlkehholhaaDoor
