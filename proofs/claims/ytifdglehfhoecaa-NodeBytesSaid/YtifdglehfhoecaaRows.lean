/-
  No cell of these rows narrows 'for every input' (looked for: loops, veiled, ifaces, maps, wideKeys, modest, calm, conditions, laid).
  DERIVED. THE GIVEN ROWS OF THIS SEAT. 15 by the template 'for every input the law returns true; each argument reads behind the call as it read before'; 0 by the template 'total and deterministic' (their statements: YtifdglehfhoecaaTotals.lean).
  GIVEN WITH THE SEED: the statements are not yours to turn. If you find one false, say at which input.
  Laid BY PROGRAM, IN A SANDBOX (cutbox-rows.mjs): the forced cells as the released guide's own fill.sh prints them over the translation 3941dbf2e50910e2… (all of the seat's roots in one cut). By AI agents, Wed Nov 11 2026. No macro, syntax, notation, axiom, sorry.
-/
import Derived.Test.YtifdglehfhoecaaChecked
import GoSem.Claim
import GoSem.ClaimJoined
import GoSem.ClaimMapViews
import Derived.JoinedTies
import Derived.KernelRfl
namespace Go.Proofs.Ytifdglehfhoecaa
/- THE CELL 'sum', in the pinned program and in every row, IS THE sha256 OF THE DUMP (.gsa) THAT YtifdglehfhoecaaProg.lean LOADS. Nothing in Lean hashes anything: it is a label: what it is worth is what the hold of that sum in a sandbox is worth. -/
noncomputable def Try.pinned : Pinned := { name := "ytifdglehfhoecaa", sum := "3941dbf2e50910e20aab490b604bbe0ae2d0356533c647fbb2b7e993e9fcb925", checked := Try.checked }
namespace Rows
def none {H : Type} : Left H := { results := [], args := [] }

/-- 'rootstocklaw01.CodecWrites': WHATEVER THE INPUT: true; the input reads as it did. -/
def codecWritesSpec : ChangeSpec := { name := "codecWrites", fn := fun _ => fun
  | [d1, d2, d3, d4] => { results := [.lit (.bool true)], args := [d1, d2, d3, d4] }
  | _ => none }
def codecWritesRow : OpenClaim := { program := "ytifdglehfhoecaa", sum := "3941dbf2e50910e20aab490b604bbe0ae2d0356533c647fbb2b7e993e9fcb925", func := "rootstock/rootstocklaw01.CodecWrites", spec := "codecWrites", inPlace := ["internal/abi.NoEscape", "internal/bytealg.MakeNoZero"], apart := false }
def CodecWritesSaid : Prop := codecWritesRow.holds Try.pinned (OpenSpec.ofChange codecWritesSpec)

/-- ITS FALSE NEIGHBOUR: 'it returns false'. Refute it at one input. -/
def codecWritesWrong : ChangeSpec := { name := "codecWrites", fn := fun _ => fun
  | [d1, d2, d3, d4] => { results := [.lit (.bool false)], args := [d1, d2, d3, d4] }
  | _ => none }
def CodecWritesWrongFalsely : Prop := codecWritesRow.holds Try.pinned (OpenSpec.ofChange codecWritesWrong)

/-- 'rootstocklaw01.CodecOrder': WHATEVER THE INPUT: true; the input reads as it did. -/
def codecOrderSpec : ChangeSpec := { name := "codecOrder", fn := fun _ => fun
  | [d1, d2, d3] => { results := [.lit (.bool true)], args := [d1, d2, d3] }
  | _ => none }
def codecOrderRow : OpenClaim := { program := "ytifdglehfhoecaa", sum := "3941dbf2e50910e20aab490b604bbe0ae2d0356533c647fbb2b7e993e9fcb925", func := "rootstock/rootstocklaw01.CodecOrder", spec := "codecOrder", inPlace := ["internal/abi.NoEscape", "internal/bytealg.MakeNoZero"], apart := false }
def CodecOrderSaid : Prop := codecOrderRow.holds Try.pinned (OpenSpec.ofChange codecOrderSpec)

/-- ITS FALSE NEIGHBOUR: 'it returns false'. Refute it at one input. -/
def codecOrderWrong : ChangeSpec := { name := "codecOrder", fn := fun _ => fun
  | [d1, d2, d3] => { results := [.lit (.bool false)], args := [d1, d2, d3] }
  | _ => none }
def CodecOrderWrongFalsely : Prop := codecOrderRow.holds Try.pinned (OpenSpec.ofChange codecOrderWrong)

/-- 'rootstocklaw01.CodecPieces': WHATEVER THE INPUT: true; the input reads as it did. -/
def codecPiecesSpec : ChangeSpec := { name := "codecPieces", fn := fun _ => fun
  | [d1, d2, d3] => { results := [.lit (.bool true)], args := [d1, d2, d3] }
  | _ => none }
def codecPiecesRow : OpenClaim := { program := "ytifdglehfhoecaa", sum := "3941dbf2e50910e20aab490b604bbe0ae2d0356533c647fbb2b7e993e9fcb925", func := "rootstock/rootstocklaw01.CodecPieces", spec := "codecPieces", inPlace := ["internal/abi.NoEscape", "internal/bytealg.MakeNoZero"], apart := false }
def CodecPiecesSaid : Prop := codecPiecesRow.holds Try.pinned (OpenSpec.ofChange codecPiecesSpec)

/-- ITS FALSE NEIGHBOUR: 'it returns false'. Refute it at one input. -/
def codecPiecesWrong : ChangeSpec := { name := "codecPieces", fn := fun _ => fun
  | [d1, d2, d3] => { results := [.lit (.bool false)], args := [d1, d2, d3] }
  | _ => none }
def CodecPiecesWrongFalsely : Prop := codecPiecesRow.holds Try.pinned (OpenSpec.ofChange codecPiecesWrong)

/-- 'rootstocklaw01.CodecBack': WHATEVER THE INPUT: true; the input reads as it did. -/
def codecBackSpec : ChangeSpec := { name := "codecBack", fn := fun _ => fun
  | [d1, d2, d3, d4] => { results := [.lit (.bool true)], args := [d1, d2, d3, d4] }
  | _ => none }
def codecBackRow : OpenClaim := { program := "ytifdglehfhoecaa", sum := "3941dbf2e50910e20aab490b604bbe0ae2d0356533c647fbb2b7e993e9fcb925", func := "rootstock/rootstocklaw01.CodecBack", spec := "codecBack", inPlace := ["internal/abi.NoEscape", "internal/bytealg.MakeNoZero"], apart := false }
def CodecBackSaid : Prop := codecBackRow.holds Try.pinned (OpenSpec.ofChange codecBackSpec)

/-- ITS FALSE NEIGHBOUR: 'it returns false'. Refute it at one input. -/
def codecBackWrong : ChangeSpec := { name := "codecBack", fn := fun _ => fun
  | [d1, d2, d3, d4] => { results := [.lit (.bool false)], args := [d1, d2, d3, d4] }
  | _ => none }
def CodecBackWrongFalsely : Prop := codecBackRow.holds Try.pinned (OpenSpec.ofChange codecBackWrong)

/-- 'rootstocklaw11.EntrySizes': WHATEVER THE INPUT: true; the input reads as it did. -/
def entrySizesSpec : ChangeSpec := { name := "entrySizes", fn := fun _ => fun
  | [d] => { results := [.lit (.bool true)], args := [d] }
  | _ => none }
def entrySizesRow : OpenClaim := { program := "ytifdglehfhoecaa", sum := "3941dbf2e50910e20aab490b604bbe0ae2d0356533c647fbb2b7e993e9fcb925", func := "rootstock/rootstocklaw11.EntrySizes", spec := "entrySizes", inPlace := ["internal/bytealg.abigen_runtime_cmpstring"], unfollowed := true, recurses := true, apart := false }
def EntrySizesSaid : Prop := entrySizesRow.holds Try.pinned (OpenSpec.ofChange entrySizesSpec)

/-- ITS FALSE NEIGHBOUR: 'it returns false'. Refute it at one input. -/
def entrySizesWrong : ChangeSpec := { name := "entrySizes", fn := fun _ => fun
  | [d] => { results := [.lit (.bool false)], args := [d] }
  | _ => none }
def EntrySizesWrongFalsely : Prop := entrySizesRow.holds Try.pinned (OpenSpec.ofChange entrySizesWrong)

/-- 'rootstocklaw11.EntryOrder': WHATEVER THE INPUT: true; the input reads as it did. -/
def entryOrderSpec : ChangeSpec := { name := "entryOrder", fn := fun _ => fun
  | [d1, d2] => { results := [.lit (.bool true)], args := [d1, d2] }
  | _ => none }
def entryOrderRow : OpenClaim := { program := "ytifdglehfhoecaa", sum := "3941dbf2e50910e20aab490b604bbe0ae2d0356533c647fbb2b7e993e9fcb925", func := "rootstock/rootstocklaw11.EntryOrder", spec := "entryOrder", inPlace := ["internal/bytealg.abigen_runtime_cmpstring"], unfollowed := true, recurses := true, apart := false }
def EntryOrderSaid : Prop := entryOrderRow.holds Try.pinned (OpenSpec.ofChange entryOrderSpec)

/-- ITS FALSE NEIGHBOUR: 'it returns false'. Refute it at one input. -/
def entryOrderWrong : ChangeSpec := { name := "entryOrder", fn := fun _ => fun
  | [d1, d2] => { results := [.lit (.bool false)], args := [d1, d2] }
  | _ => none }
def EntryOrderWrongFalsely : Prop := entryOrderRow.holds Try.pinned (OpenSpec.ofChange entryOrderWrong)

/-- 'rootstocklaw11.EntryHalves': WHATEVER THE INPUT: true; the input reads as it did. -/
def entryHalvesSpec : ChangeSpec := { name := "entryHalves", fn := fun _ => fun
  | [d] => { results := [.lit (.bool true)], args := [d] }
  | _ => none }
def entryHalvesRow : OpenClaim := { program := "ytifdglehfhoecaa", sum := "3941dbf2e50910e20aab490b604bbe0ae2d0356533c647fbb2b7e993e9fcb925", func := "rootstock/rootstocklaw11.EntryHalves", spec := "entryHalves", inPlace := ["internal/bytealg.abigen_runtime_cmpstring"], unfollowed := true, recurses := true, apart := false }
def EntryHalvesSaid : Prop := entryHalvesRow.holds Try.pinned (OpenSpec.ofChange entryHalvesSpec)

/-- ITS FALSE NEIGHBOUR: 'it returns false'. Refute it at one input. -/
def entryHalvesWrong : ChangeSpec := { name := "entryHalves", fn := fun _ => fun
  | [d] => { results := [.lit (.bool false)], args := [d] }
  | _ => none }
def EntryHalvesWrongFalsely : Prop := entryHalvesRow.holds Try.pinned (OpenSpec.ofChange entryHalvesWrong)

/-- 'rootstocklaw11.EntryLists': WHATEVER THE INPUT: true; the input reads as it did. -/
def entryListsSpec : ChangeSpec := { name := "entryLists", fn := fun _ => fun
  | [d1, d2, d3] => { results := [.lit (.bool true)], args := [d1, d2, d3] }
  | _ => none }
def entryListsRow : OpenClaim := { program := "ytifdglehfhoecaa", sum := "3941dbf2e50910e20aab490b604bbe0ae2d0356533c647fbb2b7e993e9fcb925", func := "rootstock/rootstocklaw11.EntryLists", spec := "entryLists", inPlace := ["internal/bytealg.abigen_runtime_cmpstring"], unfollowed := true, recurses := true, apart := false }
def EntryListsSaid : Prop := entryListsRow.holds Try.pinned (OpenSpec.ofChange entryListsSpec)

/-- ITS FALSE NEIGHBOUR: 'it returns false'. Refute it at one input. -/
def entryListsWrong : ChangeSpec := { name := "entryLists", fn := fun _ => fun
  | [d1, d2, d3] => { results := [.lit (.bool false)], args := [d1, d2, d3] }
  | _ => none }
def EntryListsWrongFalsely : Prop := entryListsRow.holds Try.pinned (OpenSpec.ofChange entryListsWrong)

/-- 'rootstocklaw11.EntryKeeps': WHATEVER THE INPUT: true; the input reads as it did. -/
def entryKeepsSpec : ChangeSpec := { name := "entryKeeps", fn := fun _ => fun
  | [d1, d2, d3, d4] => { results := [.lit (.bool true)], args := [d1, d2, d3, d4] }
  | _ => none }
def entryKeepsRow : OpenClaim := { program := "ytifdglehfhoecaa", sum := "3941dbf2e50910e20aab490b604bbe0ae2d0356533c647fbb2b7e993e9fcb925", func := "rootstock/rootstocklaw11.EntryKeeps", spec := "entryKeeps", inPlace := ["internal/bytealg.abigen_runtime_cmpstring"], unfollowed := true, recurses := true, apart := false }
def EntryKeepsSaid : Prop := entryKeepsRow.holds Try.pinned (OpenSpec.ofChange entryKeepsSpec)

/-- ITS FALSE NEIGHBOUR: 'it returns false'. Refute it at one input. -/
def entryKeepsWrong : ChangeSpec := { name := "entryKeeps", fn := fun _ => fun
  | [d1, d2, d3, d4] => { results := [.lit (.bool false)], args := [d1, d2, d3, d4] }
  | _ => none }
def EntryKeepsWrongFalsely : Prop := entryKeepsRow.holds Try.pinned (OpenSpec.ofChange entryKeepsWrong)

/-- 'rootstocklaw11.EntryBytes': WHATEVER THE INPUT: true; the input reads as it did. -/
def entryBytesSpec : ChangeSpec := { name := "entryBytes", fn := fun _ => fun
  | [d1, d2] => { results := [.lit (.bool true)], args := [d1, d2] }
  | _ => none }
def entryBytesRow : OpenClaim := { program := "ytifdglehfhoecaa", sum := "3941dbf2e50910e20aab490b604bbe0ae2d0356533c647fbb2b7e993e9fcb925", func := "rootstock/rootstocklaw11.EntryBytes", spec := "entryBytes", inPlace := ["internal/bytealg.abigen_runtime_cmpstring"], unfollowed := true, recurses := true, apart := false }
def EntryBytesSaid : Prop := entryBytesRow.holds Try.pinned (OpenSpec.ofChange entryBytesSpec)

/-- ITS FALSE NEIGHBOUR: 'it returns false'. Refute it at one input. -/
def entryBytesWrong : ChangeSpec := { name := "entryBytes", fn := fun _ => fun
  | [d1, d2] => { results := [.lit (.bool false)], args := [d1, d2] }
  | _ => none }
def EntryBytesWrongFalsely : Prop := entryBytesRow.holds Try.pinned (OpenSpec.ofChange entryBytesWrong)

/-- 'rootstocklaw11.EntryBack': WHATEVER THE INPUT: true; the input reads as it did. -/
def entryBackSpec : ChangeSpec := { name := "entryBack", fn := fun _ => fun
  | [d1, d2] => { results := [.lit (.bool true)], args := [d1, d2] }
  | _ => none }
def entryBackRow : OpenClaim := { program := "ytifdglehfhoecaa", sum := "3941dbf2e50910e20aab490b604bbe0ae2d0356533c647fbb2b7e993e9fcb925", func := "rootstock/rootstocklaw11.EntryBack", spec := "entryBack", inPlace := ["internal/bytealg.abigen_runtime_cmpstring"], unfollowed := true, recurses := true, apart := false }
def EntryBackSaid : Prop := entryBackRow.holds Try.pinned (OpenSpec.ofChange entryBackSpec)

/-- ITS FALSE NEIGHBOUR: 'it returns false'. Refute it at one input. -/
def entryBackWrong : ChangeSpec := { name := "entryBack", fn := fun _ => fun
  | [d1, d2] => { results := [.lit (.bool false)], args := [d1, d2] }
  | _ => none }
def EntryBackWrongFalsely : Prop := entryBackRow.holds Try.pinned (OpenSpec.ofChange entryBackWrong)

/-- 'rootstocklaw12.NodeSwaps': WHATEVER THE INPUT: true; the input reads as it did. -/
def nodeSwapsSpec : ChangeSpec := { name := "nodeSwaps", fn := fun _ => fun
  | [d1, d2, d3, d4] => { results := [.lit (.bool true)], args := [d1, d2, d3, d4] }
  | _ => none }
def nodeSwapsRow : OpenClaim := { program := "ytifdglehfhoecaa", sum := "3941dbf2e50910e20aab490b604bbe0ae2d0356533c647fbb2b7e993e9fcb925", func := "rootstock/rootstocklaw12.NodeSwaps", spec := "nodeSwaps", unfollowed := true, recurses := true, apart := false }
def NodeSwapsSaid : Prop := nodeSwapsRow.holds Try.pinned (OpenSpec.ofChange nodeSwapsSpec)

/-- ITS FALSE NEIGHBOUR: 'it returns false'. Refute it at one input. -/
def nodeSwapsWrong : ChangeSpec := { name := "nodeSwaps", fn := fun _ => fun
  | [d1, d2, d3, d4] => { results := [.lit (.bool false)], args := [d1, d2, d3, d4] }
  | _ => none }
def NodeSwapsWrongFalsely : Prop := nodeSwapsRow.holds Try.pinned (OpenSpec.ofChange nodeSwapsWrong)

/-- 'rootstocklaw12.NodeKept': WHATEVER THE INPUT: true; the input reads as it did. -/
def nodeKeptSpec : ChangeSpec := { name := "nodeKept", fn := fun _ => fun
  | [d1, d2, d3] => { results := [.lit (.bool true)], args := [d1, d2, d3] }
  | _ => none }
def nodeKeptRow : OpenClaim := { program := "ytifdglehfhoecaa", sum := "3941dbf2e50910e20aab490b604bbe0ae2d0356533c647fbb2b7e993e9fcb925", func := "rootstock/rootstocklaw12.NodeKept", spec := "nodeKept", unfollowed := true, recurses := true, apart := false }
def NodeKeptSaid : Prop := nodeKeptRow.holds Try.pinned (OpenSpec.ofChange nodeKeptSpec)

/-- ITS FALSE NEIGHBOUR: 'it returns false'. Refute it at one input. -/
def nodeKeptWrong : ChangeSpec := { name := "nodeKept", fn := fun _ => fun
  | [d1, d2, d3] => { results := [.lit (.bool false)], args := [d1, d2, d3] }
  | _ => none }
def NodeKeptWrongFalsely : Prop := nodeKeptRow.holds Try.pinned (OpenSpec.ofChange nodeKeptWrong)

/-- 'rootstocklaw12.NodeBytes': WHATEVER THE INPUT: true; the input reads as it did. -/
def nodeBytesSpec : ChangeSpec := { name := "nodeBytes", fn := fun _ => fun
  | [d1, d2, d3] => { results := [.lit (.bool true)], args := [d1, d2, d3] }
  | _ => none }
def nodeBytesRow : OpenClaim := { program := "ytifdglehfhoecaa", sum := "3941dbf2e50910e20aab490b604bbe0ae2d0356533c647fbb2b7e993e9fcb925", func := "rootstock/rootstocklaw12.NodeBytes", spec := "nodeBytes", unfollowed := true, recurses := true, apart := false }
def NodeBytesSaid : Prop := nodeBytesRow.holds Try.pinned (OpenSpec.ofChange nodeBytesSpec)

/-- ITS FALSE NEIGHBOUR: 'it returns false'. Refute it at one input. -/
def nodeBytesWrong : ChangeSpec := { name := "nodeBytes", fn := fun _ => fun
  | [d1, d2, d3] => { results := [.lit (.bool false)], args := [d1, d2, d3] }
  | _ => none }
def NodeBytesWrongFalsely : Prop := nodeBytesRow.holds Try.pinned (OpenSpec.ofChange nodeBytesWrong)

/-- 'rootstocklaw12.NodeBack': WHATEVER THE INPUT: true; the input reads as it did. -/
def nodeBackSpec : ChangeSpec := { name := "nodeBack", fn := fun _ => fun
  | [d1, d2, d3] => { results := [.lit (.bool true)], args := [d1, d2, d3] }
  | _ => none }
def nodeBackRow : OpenClaim := { program := "ytifdglehfhoecaa", sum := "3941dbf2e50910e20aab490b604bbe0ae2d0356533c647fbb2b7e993e9fcb925", func := "rootstock/rootstocklaw12.NodeBack", spec := "nodeBack", unfollowed := true, recurses := true, apart := false }
def NodeBackSaid : Prop := nodeBackRow.holds Try.pinned (OpenSpec.ofChange nodeBackSpec)

/-- ITS FALSE NEIGHBOUR: 'it returns false'. Refute it at one input. -/
def nodeBackWrong : ChangeSpec := { name := "nodeBack", fn := fun _ => fun
  | [d1, d2, d3] => { results := [.lit (.bool false)], args := [d1, d2, d3] }
  | _ => none }
def NodeBackWrongFalsely : Prop := nodeBackRow.holds Try.pinned (OpenSpec.ofChange nodeBackWrong)

/- THE SECOND FORM. 'bulk': how many values and letters a reading holds, each counted each time it is reached (what is shared counts as often as it is met; a slice's spare places count too). A statement '..UptoSaid' is the law's where the arguments, and the package variables that the reading takes, are together of bulk at most 1048576: NARROWER than '..Said'. Prove '..Said' where nothing that the law and all that it calls make is longer than what came in: it says more and counts as full. Else prove '..UptoSaid'. A law counts once. -/
mutual
def uptoBulk {H : Type} : DataW H → Nat
  | .lit (.string bytes) => bytes.length + 1
  | .lit _ => 1
  | .nil => 1
  | .ptr d => uptoBulk d + 1
  | .slice elems spare => uptoBulkAll elems + uptoBulkAll spare + 1
  | .agg parts => uptoBulkAll parts + 1
  | .iface _ d => uptoBulk d + 1
  | .map entries => uptoBulkEntries entries + 1
  | .held _ => 1
def uptoBulkAll {H : Type} : List (DataW H) → Nat
  | [] => 0
  | d :: r => uptoBulk d + uptoBulkAll r
def uptoBulkEntries {H : Type} : List (Lit × DataW H) → Nat
  | [] => 0
  | x :: r => uptoBulkEntry x + uptoBulkEntries r
def uptoBulkEntry {H : Type} : Lit × DataW H → Nat
  | (.string bytes, d) => bytes.length + uptoBulk d + 1
  | (_, d) => uptoBulk d + 1
 end
def uptoSmall : (H : Type) → List (DataW H) → Bool := fun _ ds => decide (uptoBulkAll ds ≤ 1048576)
def OpenSpec.upto (s : _root_.Go.ChangeSpec) : _root_.Go.OpenSpec := { _root_.Go.OpenSpec.ofChange s with cond := some uptoSmall }

/-- 'rootstocklaw01.CodecWrites', WHERE WHAT IT READS IS OF BULK AT MOST 1048576: true; the input reads as it did. -/
def codecWritesUptoRow : OpenClaim := { program := "ytifdglehfhoecaa", sum := "3941dbf2e50910e20aab490b604bbe0ae2d0356533c647fbb2b7e993e9fcb925", func := "rootstock/rootstocklaw01.CodecWrites", spec := "codecWrites", inPlace := ["internal/abi.NoEscape", "internal/bytealg.MakeNoZero"], apart := false, narrowed := true }
def CodecWritesUptoSaid : Prop := codecWritesUptoRow.holds Try.pinned (OpenSpec.upto codecWritesSpec)

/-- 'rootstocklaw01.CodecOrder', WHERE WHAT IT READS IS OF BULK AT MOST 1048576: true; the input reads as it did. -/
def codecOrderUptoRow : OpenClaim := { program := "ytifdglehfhoecaa", sum := "3941dbf2e50910e20aab490b604bbe0ae2d0356533c647fbb2b7e993e9fcb925", func := "rootstock/rootstocklaw01.CodecOrder", spec := "codecOrder", inPlace := ["internal/abi.NoEscape", "internal/bytealg.MakeNoZero"], apart := false, narrowed := true }
def CodecOrderUptoSaid : Prop := codecOrderUptoRow.holds Try.pinned (OpenSpec.upto codecOrderSpec)

/-- 'rootstocklaw01.CodecPieces', WHERE WHAT IT READS IS OF BULK AT MOST 1048576: true; the input reads as it did. -/
def codecPiecesUptoRow : OpenClaim := { program := "ytifdglehfhoecaa", sum := "3941dbf2e50910e20aab490b604bbe0ae2d0356533c647fbb2b7e993e9fcb925", func := "rootstock/rootstocklaw01.CodecPieces", spec := "codecPieces", inPlace := ["internal/abi.NoEscape", "internal/bytealg.MakeNoZero"], apart := false, narrowed := true }
def CodecPiecesUptoSaid : Prop := codecPiecesUptoRow.holds Try.pinned (OpenSpec.upto codecPiecesSpec)

/-- 'rootstocklaw01.CodecBack', WHERE WHAT IT READS IS OF BULK AT MOST 1048576: true; the input reads as it did. -/
def codecBackUptoRow : OpenClaim := { program := "ytifdglehfhoecaa", sum := "3941dbf2e50910e20aab490b604bbe0ae2d0356533c647fbb2b7e993e9fcb925", func := "rootstock/rootstocklaw01.CodecBack", spec := "codecBack", inPlace := ["internal/abi.NoEscape", "internal/bytealg.MakeNoZero"], apart := false, narrowed := true }
def CodecBackUptoSaid : Prop := codecBackUptoRow.holds Try.pinned (OpenSpec.upto codecBackSpec)

/-- 'rootstocklaw11.EntrySizes', WHERE WHAT IT READS IS OF BULK AT MOST 1048576: true; the input reads as it did. -/
def entrySizesUptoRow : OpenClaim := { program := "ytifdglehfhoecaa", sum := "3941dbf2e50910e20aab490b604bbe0ae2d0356533c647fbb2b7e993e9fcb925", func := "rootstock/rootstocklaw11.EntrySizes", spec := "entrySizes", inPlace := ["internal/bytealg.abigen_runtime_cmpstring"], unfollowed := true, recurses := true, apart := false, narrowed := true }
def EntrySizesUptoSaid : Prop := entrySizesUptoRow.holds Try.pinned (OpenSpec.upto entrySizesSpec)

/-- 'rootstocklaw11.EntryOrder', WHERE WHAT IT READS IS OF BULK AT MOST 1048576: true; the input reads as it did. -/
def entryOrderUptoRow : OpenClaim := { program := "ytifdglehfhoecaa", sum := "3941dbf2e50910e20aab490b604bbe0ae2d0356533c647fbb2b7e993e9fcb925", func := "rootstock/rootstocklaw11.EntryOrder", spec := "entryOrder", inPlace := ["internal/bytealg.abigen_runtime_cmpstring"], unfollowed := true, recurses := true, apart := false, narrowed := true }
def EntryOrderUptoSaid : Prop := entryOrderUptoRow.holds Try.pinned (OpenSpec.upto entryOrderSpec)

/-- 'rootstocklaw11.EntryHalves', WHERE WHAT IT READS IS OF BULK AT MOST 1048576: true; the input reads as it did. -/
def entryHalvesUptoRow : OpenClaim := { program := "ytifdglehfhoecaa", sum := "3941dbf2e50910e20aab490b604bbe0ae2d0356533c647fbb2b7e993e9fcb925", func := "rootstock/rootstocklaw11.EntryHalves", spec := "entryHalves", inPlace := ["internal/bytealg.abigen_runtime_cmpstring"], unfollowed := true, recurses := true, apart := false, narrowed := true }
def EntryHalvesUptoSaid : Prop := entryHalvesUptoRow.holds Try.pinned (OpenSpec.upto entryHalvesSpec)

/-- 'rootstocklaw11.EntryLists', WHERE WHAT IT READS IS OF BULK AT MOST 1048576: true; the input reads as it did. -/
def entryListsUptoRow : OpenClaim := { program := "ytifdglehfhoecaa", sum := "3941dbf2e50910e20aab490b604bbe0ae2d0356533c647fbb2b7e993e9fcb925", func := "rootstock/rootstocklaw11.EntryLists", spec := "entryLists", inPlace := ["internal/bytealg.abigen_runtime_cmpstring"], unfollowed := true, recurses := true, apart := false, narrowed := true }
def EntryListsUptoSaid : Prop := entryListsUptoRow.holds Try.pinned (OpenSpec.upto entryListsSpec)

/-- 'rootstocklaw11.EntryKeeps', WHERE WHAT IT READS IS OF BULK AT MOST 1048576: true; the input reads as it did. -/
def entryKeepsUptoRow : OpenClaim := { program := "ytifdglehfhoecaa", sum := "3941dbf2e50910e20aab490b604bbe0ae2d0356533c647fbb2b7e993e9fcb925", func := "rootstock/rootstocklaw11.EntryKeeps", spec := "entryKeeps", inPlace := ["internal/bytealg.abigen_runtime_cmpstring"], unfollowed := true, recurses := true, apart := false, narrowed := true }
def EntryKeepsUptoSaid : Prop := entryKeepsUptoRow.holds Try.pinned (OpenSpec.upto entryKeepsSpec)

/-- 'rootstocklaw11.EntryBytes', WHERE WHAT IT READS IS OF BULK AT MOST 1048576: true; the input reads as it did. -/
def entryBytesUptoRow : OpenClaim := { program := "ytifdglehfhoecaa", sum := "3941dbf2e50910e20aab490b604bbe0ae2d0356533c647fbb2b7e993e9fcb925", func := "rootstock/rootstocklaw11.EntryBytes", spec := "entryBytes", inPlace := ["internal/bytealg.abigen_runtime_cmpstring"], unfollowed := true, recurses := true, apart := false, narrowed := true }
def EntryBytesUptoSaid : Prop := entryBytesUptoRow.holds Try.pinned (OpenSpec.upto entryBytesSpec)

/-- 'rootstocklaw11.EntryBack', WHERE WHAT IT READS IS OF BULK AT MOST 1048576: true; the input reads as it did. -/
def entryBackUptoRow : OpenClaim := { program := "ytifdglehfhoecaa", sum := "3941dbf2e50910e20aab490b604bbe0ae2d0356533c647fbb2b7e993e9fcb925", func := "rootstock/rootstocklaw11.EntryBack", spec := "entryBack", inPlace := ["internal/bytealg.abigen_runtime_cmpstring"], unfollowed := true, recurses := true, apart := false, narrowed := true }
def EntryBackUptoSaid : Prop := entryBackUptoRow.holds Try.pinned (OpenSpec.upto entryBackSpec)

/-- 'rootstocklaw12.NodeSwaps', WHERE WHAT IT READS IS OF BULK AT MOST 1048576: true; the input reads as it did. -/
def nodeSwapsUptoRow : OpenClaim := { program := "ytifdglehfhoecaa", sum := "3941dbf2e50910e20aab490b604bbe0ae2d0356533c647fbb2b7e993e9fcb925", func := "rootstock/rootstocklaw12.NodeSwaps", spec := "nodeSwaps", unfollowed := true, recurses := true, apart := false, narrowed := true }
def NodeSwapsUptoSaid : Prop := nodeSwapsUptoRow.holds Try.pinned (OpenSpec.upto nodeSwapsSpec)

/-- 'rootstocklaw12.NodeKept', WHERE WHAT IT READS IS OF BULK AT MOST 1048576: true; the input reads as it did. -/
def nodeKeptUptoRow : OpenClaim := { program := "ytifdglehfhoecaa", sum := "3941dbf2e50910e20aab490b604bbe0ae2d0356533c647fbb2b7e993e9fcb925", func := "rootstock/rootstocklaw12.NodeKept", spec := "nodeKept", unfollowed := true, recurses := true, apart := false, narrowed := true }
def NodeKeptUptoSaid : Prop := nodeKeptUptoRow.holds Try.pinned (OpenSpec.upto nodeKeptSpec)

/-- 'rootstocklaw12.NodeBytes', WHERE WHAT IT READS IS OF BULK AT MOST 1048576: true; the input reads as it did. -/
def nodeBytesUptoRow : OpenClaim := { program := "ytifdglehfhoecaa", sum := "3941dbf2e50910e20aab490b604bbe0ae2d0356533c647fbb2b7e993e9fcb925", func := "rootstock/rootstocklaw12.NodeBytes", spec := "nodeBytes", unfollowed := true, recurses := true, apart := false, narrowed := true }
def NodeBytesUptoSaid : Prop := nodeBytesUptoRow.holds Try.pinned (OpenSpec.upto nodeBytesSpec)

/-- 'rootstocklaw12.NodeBack', WHERE WHAT IT READS IS OF BULK AT MOST 1048576: true; the input reads as it did. -/
def nodeBackUptoRow : OpenClaim := { program := "ytifdglehfhoecaa", sum := "3941dbf2e50910e20aab490b604bbe0ae2d0356533c647fbb2b7e993e9fcb925", func := "rootstock/rootstocklaw12.NodeBack", spec := "nodeBack", unfollowed := true, recurses := true, apart := false, narrowed := true }
def NodeBackUptoSaid : Prop := nodeBackUptoRow.holds Try.pinned (OpenSpec.upto nodeBackSpec)

end Rows
end Go.Proofs.Ytifdglehfhoecaa
