/-
  Closed facts of the tie, by the kernel: hroot.
-/
import Derived.Test.YtjkeiifddmdodaaGreatDoorRows
import Derived.LaidByTextLater
import Derived.SevenTiedAt
import Derived.LaidSub
import Derived.LaidOnce
import Derived.KernelRfl
namespace Go.Proofs.YtjkeiifddmdodaaGreatDoor
open Go
set_option maxRecDepth 1000000
theorem t_hroot : Tryz.prog.worded rootWordLater = true := by kernel_rfl
end Go.Proofs.YtjkeiifddmdodaaGreatDoor
