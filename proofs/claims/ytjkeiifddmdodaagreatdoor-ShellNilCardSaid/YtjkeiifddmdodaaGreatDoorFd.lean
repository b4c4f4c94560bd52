/-
  Closed facts of the row, by the kernel: inPlace.
-/
import Derived.Test.YtjkeiifddmdodaaGreatDoorRows
import Derived.JoinedOf
import Derived.KernelRfl
namespace Go.Proofs.YtjkeiifddmdodaaGreatDoor
open Go
set_option maxRecDepth 1000000
theorem c_inPlace : (Rows.shellNilRow.inPlace == Tryz.prog.inPlace 3) = true := by kernel_rfl
end Go.Proofs.YtjkeiifddmdodaaGreatDoor
