/-
  Closed facts of the row, by the kernel: unfollowed.
-/
import Derived.Test.YtjkeiifddmdodaaGreatDoorRows
import Derived.JoinedOf
import Derived.KernelRfl
namespace Go.Proofs.YtjkeiifddmdodaaGreatDoor
open Go
set_option maxRecDepth 1000000
theorem c_unfollowed : (Rows.shellNilRow.unfollowed == Tryz.prog.unfollowed 3) = true := by kernel_rfl
end Go.Proofs.YtjkeiifddmdodaaGreatDoor
