/-
  Closed facts of the card, by the kernel.
-/
import Derived.Test.YtjkeiifddmdodaaGreatDoorRows
import Derived.SevenTiedAt
import Derived.KernelRfl
namespace Go.Proofs.YtjkeiifddmdodaaGreatDoor
open Go
set_option maxRecDepth 1000000
theorem k_wfbt : Rows.shellNilRow.wfByText (OpenSpec.ofChange Rows.shellNilSpec) = true := by kernel_rfl
theorem k_main : Tryz.pinned.checked.prog.mainIs = some (true, "7c03a24d0cb89bd832a6aa3ebbe2a86f444f950258e5e27760913d4c0fdeef45".toList) := by kernel_rfl
theorem k_looks : true = Tryz.prog.looks [] := by kernel_rfl
theorem k_stand : Tryz.prog.wantsStandIn 9 = false := by kernel_rfl
end Go.Proofs.YtjkeiifddmdodaaGreatDoor
