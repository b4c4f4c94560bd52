/-
  Closed facts of the row, by the kernel: wf, par, ntie, stops, pstops, knobs, pknobs, maps, ifaces, mapsOut, loops, wideKeys, vars, res, ifacesOut, loopsOut, short, lifted, make, kinds, pinnedBy, veiled, veiledFits.
-/
import Derived.Test.YtjkeiifddmdodaaGreatDoorRows
import Derived.JoinedOf
import Derived.KernelRfl
namespace Go.Proofs.YtjkeiifddmdodaaGreatDoor
open Go
set_option maxRecDepth 1000000
theorem c_wf : Rows.shellNilRow.wf (OpenSpec.ofChange Rows.shellNilSpec) = true := by kernel_rfl
theorem c_par : Tryz.f3.params.all (Tryz.prog.readableRec ·) = true := by kernel_rfl
theorem c_ntie : namedTie Tryz.prog Rows.shellNilRow.named Rows.shellNilSpec.vars = true := by kernel_rfl
theorem c_stops : (Rows.shellNilRow.stops == []) = true := by kernel_rfl
theorem c_pstops : (Tryz.prog.stops == []) = true := by kernel_rfl
theorem c_knobs : (Rows.shellNilRow.knobs == []) = true := by kernel_rfl
theorem c_pknobs : (Tryz.prog.stopKnobs == []) = true := by kernel_rfl
theorem c_maps : (Rows.shellNilRow.maps == (Tryz.f3.params.toList ++ Rows.shellNilSpec.plain.varTypes Tryz.prog).any (Tryz.prog.mapsRec ·)) = true := by kernel_rfl
theorem c_ifaces : (Rows.shellNilRow.ifaces == (Tryz.f3.params.toList ++ Rows.shellNilSpec.plain.varTypes Tryz.prog).any (Tryz.prog.ifacesRec ·)) = true := by kernel_rfl
theorem c_mapsOut : (Rows.shellNilRow.mapsOut == Tryz.prog.mapsAmong Tryz.f3.resultTypes.toList) = true := by kernel_rfl
theorem c_loops : (Rows.shellNilRow.loops == (Tryz.f3.params.toList ++ Rows.shellNilSpec.plain.varTypes Tryz.prog).any (Tryz.prog.loopsFrom ·)) = true := by kernel_rfl
theorem c_wideKeys : (Rows.shellNilRow.wideKeys == (Tryz.f3.params.toList ++ Rows.shellNilSpec.plain.varTypes Tryz.prog ++ Tryz.f3.resultTypes.toList).any (Tryz.prog.wideKeysFrom ·)) = true := by kernel_rfl
theorem c_vars : Rows.shellNilSpec.vars.all (Tryz.prog.varReadable ·) = true := by kernel_rfl
theorem c_res : Tryz.f3.resultTypes.all (fun t => Tryz.prog.readableRec t && decide (t < Tryz.prog.types.size)) = true := by kernel_rfl
theorem c_ifacesOut : (Rows.shellNilRow.ifacesOut == Tryz.f3.resultTypes.toList.any (Tryz.prog.ifacesRec ·)) = true := by kernel_rfl
theorem c_loopsOut : (Rows.shellNilRow.loopsOut == Tryz.f3.resultTypes.toList.any (Tryz.prog.loopsFrom ·)) = true := by kernel_rfl
theorem c_short : Rows.shellNilRow.shortTexts.isNone = true := by kernel_rfl
theorem c_lifted : (Rows.shellNilRow.lifted == Tryz.prog.liftsFinal) = true := by kernel_rfl
theorem c_make : (Tryz.prog.make == some Rows.shellNilRow.make) = true := by kernel_rfl
theorem c_kinds : (Rows.shellNilRow.kinds == (if Rows.shellNilRow.domain.isEmpty then [] else Tryz.f3.params.toList.map fun t => match Tryz.prog.underlying t with | some (.int k) => some k | _ => none)) = true := by kernel_rfl
theorem c_pinnedBy : (Rows.shellNilRow.pinned == Rows.shellNilRow.pinnedBy) = true := by kernel_rfl
theorem c_veiled : (Rows.shellNilRow.veiled == (Tryz.f3.params.toList ++ Rows.shellNilSpec.plain.varTypes Tryz.prog ++ Tryz.f3.resultTypes.toList).any (Tryz.prog.veiledRec ·)) = true := by kernel_rfl
theorem c_veiledFits : Rows.shellNilRow.veiledFits Tryz.prog Tryz.f3.params.toList (Tryz.f3.params.toList ++ Rows.shellNilSpec.plain.varTypes Tryz.prog ++ Tryz.f3.resultTypes.toList) = true := by kernel_rfl
end Go.Proofs.YtjkeiifddmdodaaGreatDoor
