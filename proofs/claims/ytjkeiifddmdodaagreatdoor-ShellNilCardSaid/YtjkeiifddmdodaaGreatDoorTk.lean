/-
  THE TIED CARD: whatever the line, ShellNil returns true; what the row lists is tied to the program's text.
-/
import Derived.Test.YtjkeiifddmdodaaGreatDoorTj
import Derived.Test.YtjkeiifddmdodaaGreatDoorCards
import Derived.Test.YtjkeiifddmdodaaGreatDoorUa
import Derived.Test.YtjkeiifddmdodaaGreatDoorUb
import Derived.Test.YtjkeiifddmdodaaGreatDoorUc
import Derived.Test.YtjkeiifddmdodaaGreatDoorUd
import Derived.Test.YtjkeiifddmdodaaGreatDoorUe
import Derived.Test.YtjkeiifddmdodaaGreatDoorUf
import Derived.Test.YtjkeiifddmdodaaGreatDoorUg
import Derived.Test.YtjkeiifddmdodaaGreatDoorUh
import Derived.Test.YtjkeiifddmdodaaGreatDoorVb
import Derived.Test.YtjkeiifddmdodaaGreatDoorVc
namespace Go.Proofs.YtjkeiifddmdodaaGreatDoor
open Go
set_option maxRecDepth 1000000
theorem tie : Tryz.prog.laidByTextLater [("unicode/utf8.acceptRanges", Rows.laid_unicode_utf8_acceptRanges), ("strconv.ErrSyntax", Rows.laid_strconv_ErrSyntax), ("strconv.ErrRange", Rows.laid_strconv_ErrRange), ("internal/strconv.uint64pow10", Rows.laid_internal_strconv_uint64pow10), ("math/bits.deBruijn32tab", Rows.laid_math_bits_deBruijn32tab), ("math/bits.deBruijn64tab", Rows.laid_math_bits_deBruijn64tab), ("errors.errorType", Rows.laid_errors_errorType)] [.data, .sentinel, .sentinel, .data, .data, .data, .handle] true :=
  Program.laidByTextLater_by_one 79 8 65 t_hw t_hw2 t_hroot t_hk t_hg t_hn t_hrun
theorem fits : Tryz.pinned.checked.prog.listedFits Rows.shellNilRow.laid = true := by
  unfold Program.listedFits
  rw [t_nou, t_ffit]
  rfl
theorem row_tie : Rows.shellNilRow.laidByTextAt .later Tryz.pinned [.pinned, .data, .sentinel, .sentinel, .data, .data, .data, .handle] true :=
  OpenClaim.laidByTextAt_pinned rfl rfl tie rfl rfl rfl rfl (fun y hy e => by
    simp only [Rows.shellNilRow, List.zip_cons_cons, List.zip_nil_right, List.mem_cons, List.mem_nil_iff, or_false] at hy
    rcases hy with rfl | rfl | rfl | rfl | rfl | rfl | rfl | rfl
    · exact ⟨t_pin, t_pindat⟩
    · cases e
    · cases e
    · cases e
    · cases e
    · cases e
    · cases e
    · cases e) fits
theorem goes : false = Rows.shellNilRow.goesBy Tryz.pinned.checked.prog := by
  have h : Rows.shellNilRow.goesBy Tryz.prog = false := by
    unfold OpenClaim.goesBy Program.goesAt Program.goesFrom
    rw [show Rows.shellNilRow.func = "averment/avermentlaw25.ShellNil" from rfl, k_fnamed, Option.any_some, goes_none k_nogo, Bool.false_or]
    rfl
  exact h.symm
theorem card_holds : Rows.ShellNilCardSaid :=
  Claim7.holds_tied_plain_at .later [] [.pinned, .data, .sentinel, .sentinel, .data, .data, .data, .handle] true (true, "7c03a24d0cb89bd832a6aa3ebbe2a86f444f950258e5e27760913d4c0fdeef45") true
    row_holds (fun _ h => by cases h) k_wfbt (fun _ h => by cases h) row_tie rfl ⟨rfl, rfl⟩ k_main rfl
    (fun f fn hf hfn => by
      obtain rfl : f = 3 := (Option.some.inj ((show Tryz.prog.funcNamed "averment/avermentlaw25.ShellNil" = some 3 from k_fnamed).symm.trans hf)).symm
      obtain rfl : fn = Tryz.f3 := (Option.some.inj (Tryz.func3.symm.trans hfn)).symm
      exact ⟨k_looks, fun j t ht => by
        rw [Tryz.params3] at ht
        have h9 : t = 9 := by
          rcases j with _ | j
          · simpa using ht.symm
          · simp at ht
        subst h9
        exact k_stand⟩)
    goes
end Go.Proofs.YtjkeiifddmdodaaGreatDoor
