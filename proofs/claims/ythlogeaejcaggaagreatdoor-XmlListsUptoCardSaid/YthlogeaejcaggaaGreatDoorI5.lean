/- A part of the proof: JxItoa5. -/
import Derived.Test.YthlogeaejcaggaaGreatDoorX3
set_option linter.all false
section
set_option linter.all false
set_option maxRecDepth 100000
namespace Go.AI.Jx
open Go Go.Proofs
theorem itoa77_5_0 : ((List.range 25).all fun c => match acall Ek noOrc 60 77 [.v (.int .i64 ((c + 500 : Nat) - 450 : Int))] [] with
    | some (.ret y, []) => avEq y (.v (.string (ba (intDigits ((c + 500 : Nat) - 450 : Int)))))
    | _ => false) = true := by kernel_rfl
theorem itoa77_5_1 : ((List.range 25).all fun c => match acall Ek noOrc 60 77 [.v (.int .i64 ((c + 525 : Nat) - 450 : Int))] [] with
    | some (.ret y, []) => avEq y (.v (.string (ba (intDigits ((c + 525 : Nat) - 450 : Int)))))
    | _ => false) = true := by kernel_rfl
theorem itoa77_5_2 : ((List.range 25).all fun c => match acall Ek noOrc 60 77 [.v (.int .i64 ((c + 550 : Nat) - 450 : Int))] [] with
    | some (.ret y, []) => avEq y (.v (.string (ba (intDigits ((c + 550 : Nat) - 450 : Int)))))
    | _ => false) = true := by kernel_rfl
theorem itoa77_5_3 : ((List.range 25).all fun c => match acall Ek noOrc 60 77 [.v (.int .i64 ((c + 575 : Nat) - 450 : Int))] [] with
    | some (.ret y, []) => avEq y (.v (.string (ba (intDigits ((c + 575 : Nat) - 450 : Int)))))
    | _ => false) = true := by kernel_rfl
end Go.AI.Jx
end
