/-
  Closed facts of the row, by the kernel: laidOut.
-/
import Derived.Test.YtjkeiifddmdodaaGreatDoorRows
import Derived.JoinedOf
import Derived.KernelRfl
namespace Go.Proofs.YtjkeiifddmdodaaGreatDoor
open Go
set_option maxRecDepth 1000000
theorem c_laidOut : laidOutB Tryz.prog = true := by kernel_rfl
end Go.Proofs.YtjkeiifddmdodaaGreatDoor
