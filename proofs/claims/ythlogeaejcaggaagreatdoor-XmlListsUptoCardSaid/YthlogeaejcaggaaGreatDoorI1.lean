/- A part of the proof: JxItoa1. -/
import Derived.Test.YthlogeaejcaggaaGreatDoorX3
set_option linter.all false
section
set_option linter.all false
set_option maxRecDepth 100000
namespace Go.AI.Jx
open Go Go.Proofs
theorem itoa77_1_0 : ((List.range 25).all fun c => match acall Ek noOrc 60 77 [.v (.int .i64 ((c + 100 : Nat) - 450 : Int))] [] with
    | some (.ret y, []) => avEq y (.v (.string (ba (intDigits ((c + 100 : Nat) - 450 : Int)))))
    | _ => false) = true := by kernel_rfl
theorem itoa77_1_1 : ((List.range 25).all fun c => match acall Ek noOrc 60 77 [.v (.int .i64 ((c + 125 : Nat) - 450 : Int))] [] with
    | some (.ret y, []) => avEq y (.v (.string (ba (intDigits ((c + 125 : Nat) - 450 : Int)))))
    | _ => false) = true := by kernel_rfl
theorem itoa77_1_2 : ((List.range 25).all fun c => match acall Ek noOrc 60 77 [.v (.int .i64 ((c + 150 : Nat) - 450 : Int))] [] with
    | some (.ret y, []) => avEq y (.v (.string (ba (intDigits ((c + 150 : Nat) - 450 : Int)))))
    | _ => false) = true := by kernel_rfl
theorem itoa77_1_3 : ((List.range 25).all fun c => match acall Ek noOrc 60 77 [.v (.int .i64 ((c + 175 : Nat) - 450 : Int))] [] with
    | some (.ret y, []) => avEq y (.v (.string (ba (intDigits ((c + 175 : Nat) - 450 : Int)))))
    | _ => false) = true := by kernel_rfl
end Go.AI.Jx
end
