/-
  Closed facts of the row, by the kernel: enter.
-/
import Derived.Test.YtjkeiifddmdodaaGreatDoorRows
import Derived.JoinedOf
import Derived.KernelRfl
namespace Go.Proofs.YtjkeiifddmdodaaGreatDoor
open Go
set_option maxRecDepth 1000000
theorem c_enter : Tryz.prog.mayEnter = true := by kernel_rfl
end Go.Proofs.YtjkeiifddmdodaaGreatDoor
