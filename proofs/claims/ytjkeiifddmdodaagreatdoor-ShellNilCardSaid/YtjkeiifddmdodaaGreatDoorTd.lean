/-
  Do replies "what" where no Shell is, and to a text that begins or ends with a space; of what there was nothing turns.
-/
import Derived.Test.YtjkeiifddmdodaaGreatDoorSp
import Derived.Test.YtjkeiifddmdodaaGreatDoorTc
import Derived.Test.YtjkeiifddmdodaaGreatDoorTs
import Derived.WalkKit
import Derived.Below
set_option linter.unusedVariables false
namespace Go.Proofs
open Go.RowKit Go.Lib
theorem Tryz.do_nil (s : ByteArray) (m : Int) (w : World) (hs : s.size < 4294967281) (hm : w.cell? ⟨0, 0, none⟩ = some (.int .i64 m)) :
    Calls Tryz.prog 6 #[.pointer none, .string s] w fun e w' => e = .returned (.string ⟨#[119, 104, 97, 116]⟩) ∧ Below w.heap.size w w' := by
  have c := Tryz.strings_Split s Sp.sp m w hs hm (by decide)
  go_enter Tryz.func6, Tryz.ntmps6
  go_wp2_with (go_at_call 7; refine c.mono ?_; rintro e w' ⟨rfl, rfl⟩)
  go_ret
  exact ⟨rfl, (Below.refl _ _).alloc (Nat.le_refl _) _⟩
theorem Tryz.do_sp (a : Addr) (s : ByteArray) (m : Int) (w : World) (hs : s.size < 4294967281) (hm : w.cell? ⟨0, 0, none⟩ = some (.int .i64 m))
    (h : containsS (splitB Sp.sp 0 (countB s Sp.sp) s) ⟨#[]⟩ = true) :
    Calls Tryz.prog 6 #[.pointer (some a), .string s] w fun e w' => e = .returned (.string ⟨#[119, 104, 97, 116]⟩) ∧ Below w.heap.size w w' := by
  have c := Tryz.strings_Split s Sp.sp m w hs hm (by decide)
  have hlen := splitB_all Sp.sp (by decide) 0 _ s rfl
  have hcnt := countB_le Sp.sp (by decide) s.size s (Nat.le_refl _)
  have d := Tryz.slices_Contains_string w.heap.size 0 (countB s Sp.sp + 1) (countB s Sp.sp + 1) (splitB Sp.sp 0 (countB s Sp.sp) s) ⟨#[]⟩
    (w.alloc (.cells ((splitB Sp.sp 0 (countB s Sp.sp) s).map Value.string).toArray 9)) (by omega) (by omega) (fun j hj => by
      unfold World.cell?
      rw [show (w.alloc (.cells ((splitB Sp.sp 0 (countB s Sp.sp) s).map Value.string).toArray 9)).heap = w.heap.push (.cells ((splitB Sp.sp 0 (countB s Sp.sp) s).map Value.string).toArray 9) from rfl]
      simp [List.getElem?_eq_getElem hj, List.getD])
  rw [List.take_of_length_le (by omega), h] at d
  have hcl : Hid (countB s Sp.sp = countB s Sp.sp) := rfl
  clear hlen hcnt h
  go_enter Tryz.func6, Tryz.ntmps6
  go_wp2_with (first
    | (go_at_call 7; refine c.mono ?_; rintro e w' ⟨rfl, rfl⟩)
    | (go_at_call 8; refine d.mono ?_; rintro e w' ⟨rfl, rfl⟩))
  go_ret
  exact ⟨rfl, (Below.refl _ _).alloc (Nat.le_refl _) _⟩
end Go.Proofs
