/-
  What all rows of this seat need: the program's own facts, and that the listed table lies in its cells. Conditions: none.
-/
import Derived.Test.YtnkcmlkehholhaaDoorCards
import Derived.Test.YtnkcmlkehholhaaDoorTie
import Derived.Test.YtnkcmlkehholhaaDoorStep
import Derived.Test.YtnkcmlkehholhaaDoorLaw
import Derived.OpenShut
import Derived.Deep.DeepHandedRow
import Derived.Lib.LaidTab
namespace Go.Proofs.YtnkcmlkehholhaaDoor.Seat
open Go.ChangeShapes Go.WideShapes Go.ChangeAt Go.RowKit
theorem own : ownKnob Tryd.prog.godebug = none := by kernel_rfl
theorem laidOut : laidOutB Tryd.prog = true := by kernel_rfl
theorem gTab : Tryd.prog.globalNamed "rootstock/crc.halves" = some 0 := by kernel_rfl
theorem gTabType : (Tryd.prog.globals[0]?).map (·.type) = some 35 := by kernel_rfl
theorem cells35 : Tryd.prog.cellsOf 35 = 16 := by kernel_rfl
theorem cells31 : Tryd.prog.cellsOf 31 = 1 := by kernel_rfl
def nums : List Int := [0, 498536548, 997073096, 651767980, 1994146192, 1802195444, 1303535960, 1342533948, 3988292384, 4027552580, 3604390888, 3412177804, 2607071920, 2262029012, 2685067896, 3183342108]
theorem nums_half : ∀ k, k < 16 → nums.getD k 0 = ((Crcm.half k : Nat) : Int) := by decide
theorem table {W : World} {r : OpenClaim} (hr : r.laid = [("rootstock/crc.halves", Rows.laid_rootstock_crc_halves)]) (h : laidMetH Tryd.prog r.laid W) : Crcw.Table W := by
  rw [hr] at h
  have ht : Lib.TabIs Tryd.prog W "rootstock/crc.halves" .u32 nums := Lib.tabIs_of_head (rest := []) gTab gTabType Tryd.underlying35 Tryd.underlying31 cells31 cells35 h
  intro k hk
  have h1 := ht.cell gTab k (by exact hk)
  rw [h1, ← nums_half k hk]
noncomputable def laidWorld (os : Os) : World :=
  { World.holding Tryd.prog os ⟨#[], #[], []⟩ with heap := (World.holding Tryd.prog os ⟨#[], #[], []⟩).heap.modify 0 fun
      | .cells _ t frozen => .cells #[.int .u32 0, .int .u32 498536548, .int .u32 997073096, .int .u32 651767980, .int .u32 1994146192, .int .u32 1802195444, .int .u32 1303535960, .int .u32 1342533948, .int .u32 3988292384, .int .u32 4027552580, .int .u32 3604390888, .int .u32 3412177804, .int .u32 2607071920, .int .u32 2262029012, .int .u32 2685067896, .int .u32 3183342108] t frozen
      | o => o }
end Go.Proofs.YtnkcmlkehholhaaDoor.Seat

