/-
  The row: whatever the line, ShellNil returns true, and the line reads as it read.
-/
import Derived.Test.YtjkeiifddmdodaaGreatDoorTi
import Derived.Test.YtjkeiifddmdodaaGreatDoorFa
import Derived.Test.YtjkeiifddmdodaaGreatDoorFb
import Derived.Test.YtjkeiifddmdodaaGreatDoorFc
import Derived.Test.YtjkeiifddmdodaaGreatDoorFd
import Derived.Test.YtjkeiifddmdodaaGreatDoorFe
import Derived.Test.YtjkeiifddmdodaaGreatDoorFf
import Derived.Test.YtjkeiifddmdodaaGreatDoorFg
import Derived.Test.YtjkeiifddmdodaaGreatDoorFh
import Derived.Test.YtjkeiifddmdodaaGreatDoorFi
import Derived.Test.YtjkeiifddmdodaaGreatDoorVa
namespace Go.Proofs.YtjkeiifddmdodaaGreatDoor
open Go.ChangeShapes Go.WideShapes Go.RowKit Go.ChangeMaps
set_option maxRecDepth 1000000
theorem andT {a b : Bool} (ha : a = true) (hb : b = true) : (a && b) = true := by rw [ha, hb]; rfl
theorem c_recurses : (Rows.shellNilRow.recurses == Tryz.prog.recurses 3) = true := by
  have h : true = Tryz.prog.unfollowed 3 := eq_of_beq (show (true == Tryz.prog.unfollowed 3) = true from c_unfollowed)
  show (true == (Tryz.prog.unfollowed 3 || _)) = true
  rw [← h]
  rfl
theorem joined : joinedFacts Tryz.pinned.checked.prog 3 Tryz.f3 Rows.shellNilSpec Rows.shellNilRow = true := by
  show joinedFacts Tryz.prog 3 Tryz.f3 Rows.shellNilSpec Rows.shellNilRow = true
  unfold joinedFacts
  exact andT (andT (andT (andT (andT (andT (andT (andT (andT (andT (andT (andT (andT (andT (andT (andT (andT (andT (andT (andT (andT (andT (andT (andT (andT (andT (andT (andT (andT (andT (andT (c_wf) c_laidOut) c_mapsRowed) c_par) c_ntie) c_stops) c_pstops) c_knobs) c_pknobs) c_inPlace) c_unfollowed) c_recurses) c_named) c_maps) c_ifaces) c_mapsOut) c_loops) c_wideKeys) c_vars) c_res) c_ifacesOut) c_loopsOut) c_plainKeys) c_short) c_heard) c_enter) c_lifted) c_make) c_kinds) c_pinnedBy) c_veiled) c_veiledFits
theorem row_holds : Rows.ShellNilSaid :=
  OpenClaim.holds_of_wide 3 Tryz.f3 rfl rfl rfl rfl rfl rfl rfl ⟨rfl, rfl, rfl, rfl, rfl⟩ rfl rfl rfl rfl rfl k_fnamed Tryz.func3 joined
    (of_decide_eq_true (by kernel_rfl)) (by unfold Func.isWrapper; rw [if_neg (of_decide_eq_false (by kernel_rfl))]; exact ⟨rfl, rfl⟩)
    (fun os started H enc _ => lifted os started H enc)
end Go.Proofs.YtjkeiifddmdodaaGreatDoor
