/- A part of the proof: JxItoa2. -/
import Derived.Test.YthlogeaejcaggaaGreatDoorX3
set_option linter.all false
section
set_option linter.all false
set_option maxRecDepth 100000
namespace Go.AI.Jx
open Go Go.Proofs
theorem itoa77_2_0 : ((List.range 25).all fun c => match acall Ek noOrc 60 77 [.v (.int .i64 ((c + 200 : Nat) - 450 : Int))] [] with
    | some (.ret y, []) => avEq y (.v (.string (ba (intDigits ((c + 200 : Nat) - 450 : Int)))))
    | _ => false) = true := by kernel_rfl
theorem itoa77_2_1 : ((List.range 25).all fun c => match acall Ek noOrc 60 77 [.v (.int .i64 ((c + 225 : Nat) - 450 : Int))] [] with
    | some (.ret y, []) => avEq y (.v (.string (ba (intDigits ((c + 225 : Nat) - 450 : Int)))))
    | _ => false) = true := by kernel_rfl
theorem itoa77_2_2 : ((List.range 25).all fun c => match acall Ek noOrc 60 77 [.v (.int .i64 ((c + 250 : Nat) - 450 : Int))] [] with
    | some (.ret y, []) => avEq y (.v (.string (ba (intDigits ((c + 250 : Nat) - 450 : Int)))))
    | _ => false) = true := by kernel_rfl
theorem itoa77_2_3 : ((List.range 25).all fun c => match acall Ek noOrc 60 77 [.v (.int .i64 ((c + 275 : Nat) - 450 : Int))] [] with
    | some (.ret y, []) => avEq y (.v (.string (ba (intDigits ((c + 275 : Nat) - 450 : Int)))))
    | _ => false) = true := by kernel_rfl
end Go.AI.Jx
end
