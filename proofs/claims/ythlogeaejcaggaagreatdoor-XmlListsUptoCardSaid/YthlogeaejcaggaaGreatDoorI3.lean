/- A part of the proof: JxItoa3. -/
import Derived.Test.YthlogeaejcaggaaGreatDoorX3
set_option linter.all false
section
set_option linter.all false
set_option maxRecDepth 100000
namespace Go.AI.Jx
open Go Go.Proofs
theorem itoa77_3_0 : ((List.range 25).all fun c => match acall Ek noOrc 60 77 [.v (.int .i64 ((c + 300 : Nat) - 450 : Int))] [] with
    | some (.ret y, []) => avEq y (.v (.string (ba (intDigits ((c + 300 : Nat) - 450 : Int)))))
    | _ => false) = true := by kernel_rfl
theorem itoa77_3_1 : ((List.range 25).all fun c => match acall Ek noOrc 60 77 [.v (.int .i64 ((c + 325 : Nat) - 450 : Int))] [] with
    | some (.ret y, []) => avEq y (.v (.string (ba (intDigits ((c + 325 : Nat) - 450 : Int)))))
    | _ => false) = true := by kernel_rfl
theorem itoa77_3_2 : ((List.range 25).all fun c => match acall Ek noOrc 60 77 [.v (.int .i64 ((c + 350 : Nat) - 450 : Int))] [] with
    | some (.ret y, []) => avEq y (.v (.string (ba (intDigits ((c + 350 : Nat) - 450 : Int)))))
    | _ => false) = true := by kernel_rfl
theorem itoa77_3_3 : ((List.range 25).all fun c => match acall Ek noOrc 60 77 [.v (.int .i64 ((c + 375 : Nat) - 450 : Int))] [] with
    | some (.ret y, []) => avEq y (.v (.string (ba (intDigits ((c + 375 : Nat) - 450 : Int)))))
    | _ => false) = true := by kernel_rfl
end Go.AI.Jx
end
