/-
  Closed facts of the tie, by the kernel: hk, nou, ffit, pindat.
-/
import Derived.Test.YtjkeiifddmdodaaGreatDoorRows
import Derived.LaidByTextLater
import Derived.SevenTiedAt
import Derived.LaidSub
import Derived.LaidOnce
import Derived.KernelRfl
namespace Go.Proofs.YtjkeiifddmdodaaGreatDoor
open Go
set_option maxRecDepth 1000000
theorem t_hk : ([("unicode/utf8.acceptRanges", Rows.laid_unicode_utf8_acceptRanges), ("strconv.ErrSyntax", Rows.laid_strconv_ErrSyntax), ("strconv.ErrRange", Rows.laid_strconv_ErrRange), ("internal/strconv.uint64pow10", Rows.laid_internal_strconv_uint64pow10), ("math/bits.deBruijn32tab", Rows.laid_math_bits_deBruijn32tab), ("math/bits.deBruijn64tab", Rows.laid_math_bits_deBruijn64tab), ("errors.errorType", Rows.laid_errors_errorType)] : List (String × DataW Unit)).map (fun x => Tryz.prog.kindOfLater x.1) = ([.data, .sentinel, .sentinel, .data, .data, .data, .handle] : List LaidKind).map some := by kernel_rfl
theorem t_nou : Tryz.pinned.checked.prog.headLifts.contains "ownunsafe" = false := by kernel_rfl
theorem t_ffit : Tryz.pinned.checked.prog.funcsFit Rows.shellNilRow.laid = true := by kernel_rfl
theorem t_pindat : Pinned.datum "unicode/utf8.first" = some Rows.laid_unicode_utf8_first := by kernel_rfl
end Go.Proofs.YtjkeiifddmdodaaGreatDoor
