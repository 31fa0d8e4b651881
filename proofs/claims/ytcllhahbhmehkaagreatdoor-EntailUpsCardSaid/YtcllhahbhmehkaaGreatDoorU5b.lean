/- A part of the law's closed computation, run in the kernel. -/
import Derived.Test.YtcllhahbhmehkaaGreatDoorU4
namespace Go.Proofs.YtcllhahbhmehkaaGreatDoor.U
open Go Go.Ai Go.Ai.Fl
set_option maxRecDepth 1000000
set_option linter.unusedVariables false
theorem c4 (g0 : Nat → Option IFn) : chkT (wchk g0) wt4 8 8 = true := by kernel_rfl
theorem c5 (g0 : Nat → Option IFn) : chkT (wchk g0) wt5 8 12 = true := by kernel_rfl
theorem c6 (g0 : Nat → Option IFn) : chkT (wchk g0) wt6 8 10 = true := by kernel_rfl
theorem c7 (g0 : Nat → Option IFn) : chkT (wchk g0) wt7 8 14 = true := by kernel_rfl

end Go.Proofs.YtcllhahbhmehkaaGreatDoor.U
