/- A part of the law's closed computation, run in the kernel. -/
import Derived.Test.YtcllhahbhmehkaaGreatDoorU4
namespace Go.Proofs.YtcllhahbhmehkaaGreatDoor.U
open Go Go.Ai Go.Ai.Fl
set_option maxRecDepth 1000000
set_option linter.unusedVariables false
theorem t1 (g0 : Nat → Option IFn) : wchk g0 1 (6, 381, 0, 1) = true := by kernel_rfl
theorem t3 (g0 : Nat → Option IFn) : wchk g0 3 (6, 379, 0, 1) = true := by kernel_rfl
theorem c0 (g0 : Nat → Option IFn) : chkT (wchk g0) wt0 8 7 = true := by kernel_rfl
theorem c1 (g0 : Nat → Option IFn) : chkT (wchk g0) wt1 8 11 = true := by kernel_rfl
theorem c2 (g0 : Nat → Option IFn) : chkT (wchk g0) wt2 8 9 = true := by kernel_rfl
theorem c3 (g0 : Nat → Option IFn) : chkT (wchk g0) wt3 8 13 = true := by kernel_rfl

end Go.Proofs.YtcllhahbhmehkaaGreatDoor.U
