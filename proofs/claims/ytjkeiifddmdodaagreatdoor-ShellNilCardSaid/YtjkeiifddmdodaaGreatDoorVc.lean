/-
  No function of the program starts a goroutine.
-/
import Derived.Test.YtjkeiifddmdodaaGreatDoorRows
import Derived.SevenTiedAt
import Derived.KernelRfl
namespace Go.Proofs.YtjkeiifddmdodaaGreatDoor
open Go
set_option maxRecDepth 1000000
theorem k_nogo : Tryz.prog.funcs.any Func.goes = false := by kernel_rfl
theorem goes_none {P : Program} (h : P.funcs.any Func.goes = false) (f : FuncId) : P.goes f = false := by
  unfold Program.goes
  rw [h, Bool.and_false, Bool.or_false]
  rw [List.any_eq_false]
  intro g _
  cases hg : P.funcs[g]? with
  | none => simp
  | some fn =>
    have h2 := Array.any_eq_false'.1 h fn (Array.mem_of_getElem? hg)
    simpa using h2
end Go.Proofs.YtjkeiifddmdodaaGreatDoor
