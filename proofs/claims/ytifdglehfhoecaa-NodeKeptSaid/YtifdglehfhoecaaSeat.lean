/-
  What all rows of this seat need: the program's own facts. Conditions: none.
-/
import Derived.Test.YtifdglehfhoecaaRows
import Derived.Test.YtifdglehfhoecaaLaw
namespace Go.Proofs.Ytifdglehfhoecaa.Seat
theorem own : ownKnob Try.prog.godebug = none := by kernel_rfl
theorem laidOut : laidOutB Try.prog = true := by kernel_rfl
end Go.Proofs.Ytifdglehfhoecaa.Seat
