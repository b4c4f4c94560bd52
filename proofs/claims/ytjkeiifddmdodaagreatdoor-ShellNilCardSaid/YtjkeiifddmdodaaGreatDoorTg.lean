/-
  The world that the row hands in, as the interpreter knows it.
-/
import Derived.Test.YtjkeiifddmdodaaGreatDoorTf
import Derived.Test.YtjkeiifddmdodaaGreatDoorRows
import Derived.Shelf.Vars
import Derived.LaidHandle
import Derived.Handed
import Derived.FnData
set_option linter.unusedVariables false
namespace Go.Proofs
open Go.RowKit Go.Ri
open Go.Proofs.YtjkeiifddmdodaaGreatDoor
namespace Sn
set_option maxRecDepth 1000000
theorem etNamed : Tryz.prog.globalNamed "errors.errorType" = some 4 := by kernel_rfl
theorem rtRow : (Tryz.prog.cutTypes.find? (·.1 == "internal/reflectlite.rtype")).map (·.2) = some 465 := by kernel_rfl
theorem typesSize : Tryz.prog.types.size = 607 := by kernel_rfl
theorem errRow : ((List.range 607).filter fun t => Tryz.prog.rowNamed t [101, 114, 114, 111, 114]) = [53] := by kernel_rfl
theorem handles : (Rows.shellNilRow.laid.filter fun x => x.2.handleName?.isSome) = [("errors.errorType", Rows.laid_errors_errorType)] := by kernel_rfl
theorem beginSize : (begin Tryz.prog (fun _ _ => 0) default).world.heap.size = 14 := by kernel_rfl
theorem begin4 : ∃ zero, ((begin Tryz.prog (fun _ _ => 0) default).world.heap[4]?).bind Obj.row? = some (zero, 400) := ⟨#[.nilIface], by kernel_rfl⟩
theorem begin0 : ∃ zero : Array Value, ((begin Tryz.prog (fun _ _ => 0) default).world.heap[0]?).bind Obj.row? = some (zero, 3) ∧ zero.size = 1 := ⟨#[.int .i64 0], by kernel_rfl, rfl⟩
/-- The cell of the one variable that is read. -/
theorem et_of_laid {W : World} (h : laidMetH Tryz.prog Rows.shellNilRow.laid W) : W.var? Tryz.prog "errors.errorType" = some #[.iface 465 (.agg #[.pointer (some ⟨9, 53, none⟩)])] := by
  unfold laidMetH at h
  rw [handles] at h
  obtain ⟨name, u, ty, e1, e2, e3, e4, e5⟩ := h.2 _ (List.mem_singleton.2 rfl)
  have en : name = [101, 114, 114, 111, 114] := (Option.some.inj e1).symm
  subst en
  obtain rfl := Option.some.inj (rtRow.symm.trans e2)
  have hm : ty ∈ (List.range 607).filter fun t => Tryz.prog.rowNamed t [101, 114, 114, 111, 114] := List.mem_filter.2 ⟨List.mem_range.2 (by rw [← typesSize]; exact e3), e4⟩
  rw [errRow] at hm
  obtain rfl := List.mem_singleton.1 hm
  have hh : typeHandle Tryz.prog 53 = .pointer (some ⟨9, 53, none⟩) := by kernel_rfl
  rw [hh] at e5
  exact e5
theorem st0_get {r : Nat} {o : O} (h : st0.get r = some o) : r = 4 ∧ o = .cells [.iface 465 (.agg [.ptr (some (9, 53))])] 400 true true := by
  unfold st0 St.get at h
  simp only at h
  by_cases hr : r = 4
  · subst hr
    rcases TT.get_set_self (none : Option O) (some (.cells [.iface 465 (.agg [.ptr (some (9, 53))])] 400 true true)) (TT.full none 12) 4 with e | e
    · rw [e] at h; cases h; exact ⟨rfl, rfl⟩
    · rw [e] at h; cases h
  · rw [TT.get_set_ne _ _ _ _ _ hr, TT.get_full] at h
    cases h
def topOf (W : World) (r : Nat) : Nat :=
  match W.heap[r]? with
  | some (.cells c _ _) => c.size
  | _ => 0
def gh0 (W : World) : Gh := fun r => if r < 10 then some (r, 0, topOf W r) else none
theorem inv0 {W : World} (hs : W.ShapedOpen Tryz.prog) (hl : laidMetH Tryz.prog Rows.shellNilRow.laid W) : Inv (gh0 W) st0 W W ∧ 0 < W.heap.size ∧ ∃ m, W.cell? ⟨0, 0, none⟩ = some (.int .i64 m) := by
  have hgs : Tryz.prog.globals.size = 9 := glOk
  have hsz : 13 < W.heap.size := by
    obtain ⟨o, _, h1, _⟩ := hs.2 13 (by omega) (by rw [beginSize]; omega)
    exact (Array.getElem?_eq_some_iff.1 h1).1
  obtain ⟨zero, hz⟩ := begin4
  obtain ⟨cs, h4, _, _⟩ := hs.1 4 zero 400 (by omega) hz
  have hv := et_of_laid hl
  have hcs : cs = #[.iface 465 (.agg #[.pointer (some ⟨9, 53, none⟩)])] := by
    unfold World.var? at hv
    rw [etNamed] at hv
    simp only [Option.bind_some, h4] at hv
    exact Option.some.inj hv
  subst hcs
  have g9 : gh0 W 9 = some (9, 0, topOf W 9) := rfl
  refine ⟨⟨⟨?_, ?_, ?_, ?_, Nat.le_refl _, fun _ _ => rfl, rfl, rfl, rfl⟩, ?_, ?_⟩, by omega, ?_⟩
  · intro r o h
    obtain ⟨rfl, rfl⟩ := st0_get h
    refine ⟨4, 0, topOf W 4, _, rfl, h4, ?_⟩
    have ht : topOf W 4 = (#[Value.iface 465 (.agg #[.pointer (some ⟨9, 53, none⟩)])] : Array Value).size := by
      unfold topOf; rw [h4]
    rw [ht]
    refine .cells _ _ 400 true true 0 (0, 0) (Nat.le_refl _) (fun _ => ⟨rfl, rfl⟩) ?_ (fun h => by cases h)
    intro i v hv
    cases i with
    | zero =>
      cases hv
      refine ⟨_, rfl, .iface _ _ _ (.agg [_] [_] (.cons _ _ _ _ (.ptr _ _ ?_) .nil))⟩
      simp [adr, g9]
    | succ i => simp at hv
  · intro r r' o o' b x y h h' _ _
    rw [(st0_get h).1, (st0_get h').1]
  · intro r o b x h _
    exact .inr ⟨_, _, _, (st0_get h).2⟩
  · intro r b x h
    unfold gh0 at h
    split at h
    · cases h; omega
    · cases h
  · intro n hn
    exact ⟨topOf W n, by unfold gh0; rw [if_pos hn]⟩
  · intro r hr
    have : (15 : Nat) ≤ r := hr
    unfold gh0
    rw [if_neg (by omega)]
  · obtain ⟨zero0, h0, hz0⟩ := begin0
    exact cell_of_shapedOpen_int hs (by omega) h0 hz0 (by kernel_rfl) (by kernel_rfl) Tryz.underlying3
end Sn
end Go.Proofs
