/- A part of the proof: JxAwake. -/
import Derived.Test.YthlogeaejcaggaaGreatDoorX3
set_option linter.all false
section
set_option linter.all false
namespace Go.AI.Jx
open Go Go.Proofs
theorem awake10 : acall Ek noOrc 300 18 [] [] = some (.ret (.v (.bool true)), []) := by kernel_rfl
end Go.AI.Jx
end
