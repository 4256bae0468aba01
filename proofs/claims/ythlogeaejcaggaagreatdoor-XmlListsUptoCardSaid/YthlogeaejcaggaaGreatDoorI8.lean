/- A part of the proof: JxItoa8. -/
import Derived.Test.YthlogeaejcaggaaGreatDoorX3
set_option linter.all false
section
set_option linter.all false
set_option maxRecDepth 100000
namespace Go.AI.Jx
open Go Go.Proofs
theorem itoa77_8_0 : ((List.range 25).all fun c => match acall Ek noOrc 60 77 [.v (.int .i64 ((c + 800 : Nat) - 450 : Int))] [] with
    | some (.ret y, []) => avEq y (.v (.string (ba (intDigits ((c + 800 : Nat) - 450 : Int)))))
    | _ => false) = true := by kernel_rfl
theorem itoa77_8_1 : ((List.range 25).all fun c => match acall Ek noOrc 60 77 [.v (.int .i64 ((c + 825 : Nat) - 450 : Int))] [] with
    | some (.ret y, []) => avEq y (.v (.string (ba (intDigits ((c + 825 : Nat) - 450 : Int)))))
    | _ => false) = true := by kernel_rfl
theorem itoa77_8_2 : ((List.range 25).all fun c => match acall Ek noOrc 60 77 [.v (.int .i64 ((c + 850 : Nat) - 450 : Int))] [] with
    | some (.ret y, []) => avEq y (.v (.string (ba (intDigits ((c + 850 : Nat) - 450 : Int)))))
    | _ => false) = true := by kernel_rfl
theorem itoa77_8_3 : ((List.range 25).all fun c => match acall Ek noOrc 60 77 [.v (.int .i64 ((c + 875 : Nat) - 450 : Int))] [] with
    | some (.ret y, []) => avEq y (.v (.string (ba (intDigits ((c + 875 : Nat) - 450 : Int)))))
    | _ => false) = true := by kernel_rfl
end Go.AI.Jx
end
