/-
  The kernel reckons New(), runs(), Do of nothing and Do of slots on the interpreter.
-/
import Derived.Test.YtjkeiifddmdodaaGreatDoorKa
import Derived.KernelRfl
namespace Go.Proofs
open Go.Ri
namespace Sn
noncomputable def st0 : St := { h := (TT.full none 12).set (some (.cells [.iface 465 (.agg [.ptr (some (9, 53))])] 400 true true)) 4, nx := 15 }
noncomputable def chain4 (p : V) (s3 : St) : Bool :=
  match call env 100 6 [p, .str [115, 108, 111, 116, 115]] s3 with
  | some (.str y, _) => eqL y [115, 108, 111, 116, 115]
  | _ => false
noncomputable def chain3 (p : V) (s2 : St) : Bool :=
  match call env 100 6 [p, .str []] s2 with
  | some (.str x, s3) => bif eqL x [119, 104, 97, 116] then chain4 p s3 else false
  | _ => false
noncomputable def chain2 (p : V) (s1 : St) : Bool :=
  match call env 100 5 [] s1 with
  | some (.bool true, s2) => chain3 p s2
  | _ => false
noncomputable def chain1 : Bool :=
  match call env 100 4 [] st0 with
  | some (.ptr (some p), s1) => chain2 (.ptr (some p)) s1
  | _ => false
set_option maxRecDepth 1000000
theorem chain_true : chain1 = true := by kernel_rfl
end Sn
end Go.Proofs
