/- A part of the law's closed computation, run in the kernel. -/
import Derived.Test.YtcllhahbhmehkaaGreatDoorU7
namespace Go.Proofs.YtcllhahbhmehkaaGreatDoor.U
open Go Go.Ai Go.Ai.Fl
set_option maxRecDepth 1000000
set_option linter.unusedVariables false
noncomputable def progM (args : List V) : Option V := match args with
  | [.bytes n] => bif Nat.beq n moreN then some progV else none
  | _ => none
noncomputable def M3 : CallF := oneM 33 progM noM
noncomputable def E3 (g0 : Nat → Option IFn) : Env := envM (fnG g0) extI M3
noncomputable def tab3 (g : Nat) : Option Fn2 := bif Nat.beq g 33 then none else tab0 g
theorem first_run (g0 : Nat → Option IFn) : callN (E3 g0) tab3 1000 7 [] .bare = some (.bool true, .bare) := by kernel_rfl

end Go.Proofs.YtcllhahbhmehkaaGreatDoor.U
