/-
  A world that meets the row's conditions.
-/
import Derived.Test.YtjkeiifddmdodaaGreatDoorTg
import Derived.ChangeVars
import Derived.ChangeMaps5
import Derived.JoinedOf
import Derived.RowKit
import Derived.RowKitTokens
import Derived.LaidLaws
import Derived.LaidHandle
import Derived.HandedShaped
set_option linter.unusedVariables false
namespace Go.Proofs.YtjkeiifddmdodaaGreatDoor
open Go.ChangeShapes Go.WideShapes Go.RowKit
set_option maxRecDepth 1000000
theorem own : ownKnob Tryz.prog.godebug = none := by kernel_rfl
/-- A datum of numbers, as cells. -/
def flat : Nat → DataW Unit → List Value
  | n + 1, .agg ps => ps.flatMap (flat n)
  | _, .lit (.int k n) => [.int k n]
  | _, _ => []
def row (d : DataW Unit) (t : TypeId) : Obj := .cells (flat 3 d).toArray t
noncomputable def laidWorld (os : Os) : World :=
  let w0 := World.holding Tryz.prog os ⟨#[], #[], []⟩
  { w0 with heap := #[.cells #[.int .i64 0] 3, row Rows.laid_unicode_utf8_first 301, row Rows.laid_unicode_utf8_acceptRanges 304, row Rows.laid_internal_strconv_uint64pow10 378,
      .cells #[.iface 465 (.agg #[.pointer (some ⟨9, 53, none⟩)])] 400, .cells #[.iface 518 (.pointer (some ⟨14, 0, none⟩))] 53, .cells #[.iface 518 (.pointer (some ⟨15, 0, none⟩))] 53,
      row Rows.laid_math_bits_deBruijn32tab 516, row Rows.laid_math_bits_deBruijn64tab 517] ++ ((begin Tryz.prog (fun _ _ => 0) default).world.heap.extract 9 14) ++
      #[.cells #[.string "invalid syntax".toUTF8] 520, .cells #[.string "value out of range".toUTF8] 520] }
theorem lw_met (os : Os) (args : Array Value) : laidMetH Tryz.prog Rows.shellNilRow.laid ((laidWorld os).forCall (fun _ _ => 0) ⟨#[], args, []⟩).memory :=
  laidMetH_of_parts (laidMet_of_run' 8 (by kernel_rfl) (by kernel_rfl)) (by kernel_rfl)
end Go.Proofs.YtjkeiifddmdodaaGreatDoor
