/-
  ShellNil answers true.
-/
import Derived.Test.YtjkeiifddmdodaaGreatDoorTe
import Derived.Lib.Hide
set_option linter.unusedVariables false
namespace Go.Proofs
open Go.RowKit Go.Ri
namespace Sn
theorem cell0 {W w : World} {m : Int} (hb : Below W.heap.size W w) (hz : 0 < W.heap.size) (hm : W.cell? ⟨0, 0, none⟩ = some (.int .i64 m)) : w.cell? ⟨0, 0, none⟩ = some (.int .i64 m) :=
  (hb.cell (p := ⟨0, 0, none⟩) hz).trans hm
theorem walk_long (s : ByteArray) (W : World) (g : Gh) (hs : s.size ≤ maxLen) (hl : 200 < s.size) (hi : Inv g st0 W W) :
    Calls Tryz.prog 3 #[.string s] W fun e w' => e = .returned (.bool true) ∧ Below W.heap.size W w' := by
  obtain ⟨p, s1, s2, s3, s4, h1, h2, h3, h4⟩ := chain
  unfold maxLen at hs
  have hgt : decide ((200 : Int) < (s.size : Int)) = true := by simp; omega
  go_enter Tryz.func3, Tryz.ntmps3
  go_wp2_with (go_at_call 4; refine (new_c h1 hi).mono ?_; rintro e w1 ⟨a, g1, rfl, ha, hi1⟩)
  go_wp2_with (go_at_call 5; refine (runs_c h2 hi1).mono ?_; rintro e w2 ⟨rfl, g2, hg2, hi2⟩)
  go_ret
  exact ⟨rfl, hi2.rel.below⟩
theorem walk_short (s : ByteArray) (m : Int) (W : World) (g : Gh) (hl : s.size ≤ 200) (hz : 0 < W.heap.size) (hm : W.cell? ⟨0, 0, none⟩ = some (.int .i64 m)) (hi : Inv g st0 W W) :
    Calls Tryz.prog 3 #[.string s] W fun e w' => e = .returned (.bool true) ∧ Below W.heap.size W w' := by
  obtain ⟨p, s1, s2, s3, s4, h1, h2, h3, h4⟩ := chain
  have hgt : decide ((200 : Int) < (s.size : Int)) = false := by simp; omega
  have e1 : (s ++ (⟨#[32]⟩ : ByteArray)).size = s.size + 1 := by simp [ByteArray.size_append]; rfl
  have e2 : ((⟨#[32]⟩ : ByteArray) ++ s).size = 1 + s.size := by simp [ByteArray.size_append]; rfl
  have b0 : s.size < 4294967281 := by omega
  have b1 : (s ++ (⟨#[32]⟩ : ByteArray)).size < 4294967281 := by omega
  have b2 : ((⟨#[32]⟩ : ByteArray) ++ s).size < 4294967281 := by omega
  have p1 := Sp.pieces (s ++ Sp.sp) (.inr (Sp.after s))
  have p2 := Sp.pieces (Sp.sp ++ s) (.inl (Sp.before s))
  have H1 := Lib.hid e1
  have H2 := Lib.hid e2
  clear e1 e2
  go_enter Tryz.func3, Tryz.ntmps3
  go_wp2_with (go_at_call 4; refine (new_c h1 hi).mono ?_; rintro e w1 ⟨a, g1, rfl, ha, hi1⟩)
  go_wp2_with (go_at_call 5; refine (runs_c h2 hi1).mono ?_; rintro e w2 ⟨rfl, g2, hg2, hi2⟩)
  go_wp2_with fail
  refine (Tryz.do_nil s m w2 b0 (cell0 hi2.rel.below hz hm)).mono ?_
  rintro e w3 ⟨rfl, hb3⟩
  have hi3 := hi2.beside hb3
  go_wp2_with fail
  refine (Tryz.do_sp a (s ++ (⟨#[32]⟩ : ByteArray)) m w3 b1 (cell0 hi3.rel.below hz hm) p1).mono ?_
  rintro e w4 ⟨rfl, hb4⟩
  have hi4 := hi3.beside hb4
  go_wp2_with fail
  refine (Tryz.do_sp a ((⟨#[32]⟩ : ByteArray) ++ s) m w4 b2 (cell0 hi4.rel.below hz hm) p2).mono ?_
  rintro e w5 ⟨rfl, hb5⟩
  have hi5 := hi4.beside hb5
  go_wp2_with fail
  refine (do_c (b := ⟨#[]⟩) (r := ⟨#[119, 104, 97, 116]⟩) h3 (adr_mono hg2 ha) hi5).mono ?_
  rintro e w6 ⟨rfl, g6, hg6, hi6⟩
  go_wp2_with fail
  refine (do_c (b := ⟨#[115, 108, 111, 116, 115]⟩) (r := ⟨#[115, 108, 111, 116, 115]⟩) h4 (adr_mono hg6 (adr_mono hg2 ha)) hi6).mono ?_
  rintro e w7 ⟨rfl, g7, hg7, hi7⟩
  go_wp2_with fail
  go_ret
  exact ⟨rfl, hi7.rel.below⟩
end Sn
end Go.Proofs
