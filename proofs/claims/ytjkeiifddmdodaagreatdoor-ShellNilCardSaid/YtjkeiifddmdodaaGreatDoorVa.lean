/-
  Closed facts of the card, by the kernel.
-/
import Derived.Test.YtjkeiifddmdodaaGreatDoorRows
import Derived.SevenTiedAt
import Derived.KernelRfl
namespace Go.Proofs.YtjkeiifddmdodaaGreatDoor
open Go
set_option maxRecDepth 1000000
theorem k_fnamed : Tryz.prog.funcNamed "averment/avermentlaw25.ShellNil" = some 3 := by kernel_rfl
end Go.Proofs.YtjkeiifddmdodaaGreatDoor
