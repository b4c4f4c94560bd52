/-
  What the tables say of the program is so.
-/
import Derived.Test.YtjkeiifddmdodaaGreatDoorKa
import Derived.Test.YtjkeiifddmdodaaGreatDoorRf
set_option linter.unusedVariables false
namespace Go.Proofs
open Go.Ri
namespace Sn
set_option maxRecDepth 1000000
theorem info_of_run {P : Program} {t : TypeId} {i : TypeInfo} (h : ∀ w, (typeInfo t).run P w = .ok i w) : P.info? t = some i := by
  have h1 := h default
  simp only [typeInfo, Sem.run_bind, run_program, Result.andThen_ok] at h1
  cases hi : P.info? t with
  | none => rw [hi] at h1; cases h1
  | some j => rw [hi] at h1; cases h1; rfl
theorem tyOk : AllP (fun x : Nat × Ty => ∃ ti : TypeInfo, Tryz.prog.info? x.1 = some ti ∧ Tryz.prog.underlying x.1 = some x.2.d ∧ ti.size = x.2.sz ∧ ti.bytes = x.2.by_ ∧ ti.zero.bind ofConst = x.2.z ∧ ti.methods.toList = x.2.ms) tys :=
  ⟨
⟨Tryz.t2, info_of_run Tryz.typeInfo2, Tryz.underlying2, rfl, rfl, rfl, rfl⟩,
   ⟨Tryz.t3, info_of_run Tryz.typeInfo3, Tryz.underlying3, rfl, rfl, rfl, rfl⟩,
   ⟨Tryz.t4, info_of_run Tryz.typeInfo4, Tryz.underlying4, rfl, rfl, rfl, rfl⟩,
   ⟨Tryz.t5, info_of_run Tryz.typeInfo5, Tryz.underlying5, rfl, rfl, rfl, rfl⟩,
   ⟨Tryz.t9, info_of_run Tryz.typeInfo9, Tryz.underlying9, rfl, rfl, rfl, rfl⟩,
   ⟨Tryz.t17, info_of_run Tryz.typeInfo17, Tryz.underlying17, rfl, rfl, rfl, rfl⟩,
   ⟨Tryz.t20, info_of_run Tryz.typeInfo20, Tryz.underlying20, rfl, rfl, rfl, rfl⟩,
   ⟨Tryz.t22, info_of_run Tryz.typeInfo22, Tryz.underlying22, rfl, rfl, rfl, rfl⟩,
   ⟨Tryz.t27, info_of_run Tryz.typeInfo27, Tryz.underlying27, rfl, rfl, rfl, rfl⟩,
   ⟨Tryz.t29, info_of_run Tryz.typeInfo29, Tryz.underlying29, rfl, rfl, rfl, rfl⟩,
   ⟨Tryz.t30, info_of_run Tryz.typeInfo30, Tryz.underlying30, rfl, rfl, rfl, rfl⟩,
   ⟨Tryz.t33, info_of_run Tryz.typeInfo33, Tryz.underlying33, rfl, rfl, rfl, rfl⟩,
   ⟨Tryz.t34, info_of_run Tryz.typeInfo34, Tryz.underlying34, rfl, rfl, rfl, rfl⟩,
   ⟨Tryz.t36, info_of_run Tryz.typeInfo36, Tryz.underlying36, rfl, rfl, rfl, rfl⟩,
   ⟨Tryz.t42, info_of_run Tryz.typeInfo42, Tryz.underlying42, rfl, rfl, rfl, rfl⟩,
   ⟨Tryz.t47, info_of_run Tryz.typeInfo47, Tryz.underlying47, rfl, rfl, rfl, rfl⟩,
   ⟨Tryz.t48, info_of_run Tryz.typeInfo48, Tryz.underlying48, rfl, rfl, rfl, rfl⟩,
   ⟨Tryz.t49, info_of_run Tryz.typeInfo49, Tryz.underlying49, rfl, rfl, rfl, rfl⟩,
   ⟨Tryz.t51, info_of_run Tryz.typeInfo51, Tryz.underlying51, rfl, rfl, rfl, rfl⟩,
   ⟨Tryz.t53, info_of_run Tryz.typeInfo53, Tryz.underlying53, rfl, rfl, rfl, rfl⟩,
   ⟨Tryz.t59, info_of_run Tryz.typeInfo59, Tryz.underlying59, rfl, rfl, rfl, rfl⟩,
   ⟨Tryz.t65, info_of_run Tryz.typeInfo65, Tryz.underlying65, rfl, rfl, rfl, rfl⟩,
   ⟨Tryz.t67, info_of_run Tryz.typeInfo67, Tryz.underlying67, rfl, rfl, rfl, rfl⟩,
   ⟨Tryz.t68, info_of_run Tryz.typeInfo68, Tryz.underlying68, rfl, rfl, rfl, rfl⟩,
   ⟨Tryz.t69, info_of_run Tryz.typeInfo69, Tryz.underlying69, rfl, rfl, rfl, rfl⟩,
   ⟨Tryz.t87, info_of_run Tryz.typeInfo87, Tryz.underlying87, rfl, rfl, rfl, rfl⟩,
   ⟨Tryz.t106, info_of_run Tryz.typeInfo106, Tryz.underlying106, rfl, rfl, rfl, rfl⟩,
   ⟨Tryz.t133, info_of_run Tryz.typeInfo133, Tryz.underlying133, rfl, rfl, rfl, rfl⟩,
   ⟨Tryz.t135, info_of_run Tryz.typeInfo135, Tryz.underlying135, rfl, rfl, rfl, rfl⟩,
   ⟨Tryz.t167, info_of_run Tryz.typeInfo167, Tryz.underlying167, rfl, rfl, rfl, rfl⟩,
   ⟨Tryz.t171, info_of_run Tryz.typeInfo171, Tryz.underlying171, rfl, rfl, rfl, rfl⟩,
   ⟨Tryz.t173, info_of_run Tryz.typeInfo173, Tryz.underlying173, rfl, rfl, rfl, rfl⟩,
   ⟨Tryz.t175, info_of_run Tryz.typeInfo175, Tryz.underlying175, rfl, rfl, rfl, rfl⟩,
   ⟨Tryz.t176, info_of_run Tryz.typeInfo176, Tryz.underlying176, rfl, rfl, rfl, rfl⟩,
   ⟨Tryz.t178, info_of_run Tryz.typeInfo178, Tryz.underlying178, rfl, rfl, rfl, rfl⟩,
   ⟨Tryz.t184, info_of_run Tryz.typeInfo184, Tryz.underlying184, rfl, rfl, rfl, rfl⟩,
   ⟨Tryz.t186, info_of_run Tryz.typeInfo186, Tryz.underlying186, rfl, rfl, rfl, rfl⟩,
   ⟨Tryz.t188, info_of_run Tryz.typeInfo188, Tryz.underlying188, rfl, rfl, rfl, rfl⟩,
   ⟨Tryz.t190, info_of_run Tryz.typeInfo190, Tryz.underlying190, rfl, rfl, rfl, rfl⟩,
   ⟨Tryz.t192, info_of_run Tryz.typeInfo192, Tryz.underlying192, rfl, rfl, rfl, rfl⟩,
   ⟨Tryz.t202, info_of_run Tryz.typeInfo202, Tryz.underlying202, rfl, rfl, rfl, rfl⟩,
   ⟨Tryz.t217, info_of_run Tryz.typeInfo217, Tryz.underlying217, rfl, rfl, rfl, rfl⟩,
   ⟨Tryz.t219, info_of_run Tryz.typeInfo219, Tryz.underlying219, rfl, rfl, rfl, rfl⟩,
   ⟨Tryz.t244, info_of_run Tryz.typeInfo244, Tryz.underlying244, rfl, rfl, rfl, rfl⟩,
   ⟨Tryz.t269, info_of_run Tryz.typeInfo269, Tryz.underlying269, rfl, rfl, rfl, rfl⟩,
   ⟨Tryz.t271, info_of_run Tryz.typeInfo271, Tryz.underlying271, rfl, rfl, rfl, rfl⟩,
   ⟨Tryz.t272, info_of_run Tryz.typeInfo272, Tryz.underlying272, rfl, rfl, rfl, rfl⟩,
   ⟨Tryz.t274, info_of_run Tryz.typeInfo274, Tryz.underlying274, rfl, rfl, rfl, rfl⟩,
   ⟨Tryz.t285, info_of_run Tryz.typeInfo285, Tryz.underlying285, rfl, rfl, rfl, rfl⟩,
   ⟨Tryz.t313, info_of_run Tryz.typeInfo313, Tryz.underlying313, rfl, rfl, rfl, rfl⟩,
   ⟨Tryz.t314, info_of_run Tryz.typeInfo314, Tryz.underlying314, rfl, rfl, rfl, rfl⟩,
   ⟨Tryz.t372, info_of_run Tryz.typeInfo372, Tryz.underlying372, rfl, rfl, rfl, rfl⟩,
   ⟨Tryz.t380, info_of_run Tryz.typeInfo380, Tryz.underlying380, rfl, rfl, rfl, rfl⟩,
   ⟨Tryz.t397, info_of_run Tryz.typeInfo397, Tryz.underlying397, rfl, rfl, rfl, rfl⟩,
   ⟨Tryz.t400, info_of_run Tryz.typeInfo400, Tryz.underlying400, rfl, rfl, rfl, rfl⟩,
   ⟨Tryz.t402, info_of_run Tryz.typeInfo402, Tryz.underlying402, rfl, rfl, rfl, rfl⟩,
   ⟨Tryz.t465, info_of_run Tryz.typeInfo465, Tryz.underlying465, rfl, rfl, rfl, rfl⟩,
   ⟨Tryz.t470, info_of_run Tryz.typeInfo470, Tryz.underlying470, rfl, rfl, rfl, rfl⟩,
   ⟨Tryz.t473, info_of_run Tryz.typeInfo473, Tryz.underlying473, rfl, rfl, rfl, rfl⟩,
   ⟨Tryz.t474, info_of_run Tryz.typeInfo474, Tryz.underlying474, rfl, rfl, rfl, rfl⟩,
   ⟨Tryz.t591, info_of_run Tryz.typeInfo591, Tryz.underlying591, rfl, rfl, rfl, rfl⟩,
   trivial⟩
theorem fnOk : AllP (fun x : Nat × Func => Tryz.prog.funcs[x.1]? = some x.2) fns :=
  ⟨Tryz.func3, Tryz.func4, Tryz.func5, Tryz.func6, Tryz.func7, Tryz.func8, Tryz.func9, Tryz.func10, Tryz.func11, Tryz.func12, Tryz.func13, Tryz.func14, Tryz.func15, Tryz.func23, Tryz.func24, Tryz.func28, Tryz.func29, Tryz.func30, Tryz.func31, Tryz.func33, Tryz.func34, Tryz.func35, Tryz.func36, Tryz.func37, Tryz.func38, Tryz.func39, Tryz.func40, Tryz.func41, Tryz.func44, Tryz.func47, Tryz.func52, Tryz.func53, Tryz.func54, Tryz.func55, Tryz.func56, Tryz.func58, Tryz.func59, Tryz.func61, Tryz.func63, Tryz.func64, Tryz.func67, Tryz.func68, Tryz.func69, Tryz.func70, Tryz.func71, Tryz.func72, Tryz.func73, Tryz.func74, Tryz.func75, Tryz.func82, Tryz.func99, Tryz.func103, Tryz.func104, Tryz.func105, Tryz.func106, Tryz.func107, Tryz.func108, Tryz.func109, Tryz.func110, Tryz.func111, Tryz.func112, Tryz.func113, Tryz.func115, Tryz.func116, Tryz.func117, Tryz.func121, Tryz.func122, Tryz.func124, Tryz.func128, Tryz.func129, Tryz.func130, Tryz.func131, Tryz.func132, Tryz.func133, Tryz.func134, Tryz.func135, Tryz.func136, Tryz.func137, Tryz.func138, Tryz.func152, Tryz.func175, Tryz.func176, Tryz.func177, Tryz.func178, Tryz.func179, Tryz.func180, Tryz.func181, Tryz.func185, Tryz.func186, Tryz.func188, Tryz.func189, Tryz.func190, Tryz.func194, Tryz.func204, Tryz.func205, Tryz.func207, Tryz.func209, Tryz.func210, Tryz.func211, Tryz.func212, Tryz.func213, Tryz.func214, Tryz.func215, Tryz.func265, Tryz.func266, Tryz.func267, Tryz.func268, Tryz.func270, Tryz.func271, Tryz.func276, Tryz.func277, Tryz.func285, Tryz.func290, Tryz.func291, Tryz.func292, Tryz.func293, Tryz.func294, Tryz.func295, Tryz.func296, Tryz.func354, Tryz.func355, Tryz.func356, Tryz.func357, Tryz.func497, Tryz.func512, Tryz.func514, Tryz.func515, trivial⟩
theorem enterOk : AllP (fun x : Nat × Func => x.2.body.isNone = true ∨ ∀ (xs : Array Value) (w : World), (callFunc x.1 xs).run Tryz.prog w = .ok (.enter x.1 xs) w) fns :=
  ⟨.inr Tryz.call3, .inr Tryz.call4, .inr Tryz.call5, .inr Tryz.call6, .inr Tryz.call7, .inr Tryz.call8, .inr Tryz.call9, .inr Tryz.call10, .inr Tryz.call11, .inr Tryz.call12, .inr Tryz.call13, .inr Tryz.call14, .inr Tryz.call15, .inr Tryz.call23, .inr Tryz.call24, .inr Tryz.call28, .inr Tryz.call29, .inr Tryz.call30, .inr Tryz.call31, .inr Tryz.call33, .inr Tryz.call34, .inr Tryz.call35, .inr Tryz.call36, .inr Tryz.call37, .inr Tryz.call38, .inr Tryz.call39, .inr Tryz.call40, .inr Tryz.call41, .inr Tryz.call44, .inr Tryz.call47, .inr Tryz.call52, .inr Tryz.call53, .inr Tryz.call54, .inr Tryz.call55, .inr Tryz.call56, .inr Tryz.call58, .inr Tryz.call59, .inr Tryz.call61, .inr Tryz.call63, .inr Tryz.call64, .inl rfl, .inr Tryz.call68, .inr Tryz.call69, .inr Tryz.call70, .inr Tryz.call71, .inr Tryz.call72, .inr Tryz.call73, .inr Tryz.call74, .inr Tryz.call75, .inr Tryz.call82, .inr Tryz.call99, .inr Tryz.call103, .inr Tryz.call104, .inr Tryz.call105, .inr Tryz.call106, .inr Tryz.call107, .inr Tryz.call108, .inr Tryz.call109, .inr Tryz.call110, .inr Tryz.call111, .inr Tryz.call112, .inr Tryz.call113, .inr Tryz.call115, .inr Tryz.call116, .inr Tryz.call117, .inr Tryz.call121, .inr Tryz.call122, .inr Tryz.call124, .inr Tryz.call128, .inr Tryz.call129, .inr Tryz.call130, .inr Tryz.call131, .inr Tryz.call132, .inr Tryz.call133, .inr Tryz.call134, .inr Tryz.call135, .inr Tryz.call136, .inr Tryz.call137, .inr Tryz.call138, .inr Tryz.call152, .inr Tryz.call175, .inr Tryz.call176, .inr Tryz.call177, .inr Tryz.call178, .inr Tryz.call179, .inr Tryz.call180, .inr Tryz.call181, .inr Tryz.call185, .inr Tryz.call186, .inr Tryz.call188, .inr Tryz.call189, .inr Tryz.call190, .inr Tryz.call194, .inr Tryz.call204, .inl rfl, .inr Tryz.call207, .inr Tryz.call209, .inr Tryz.call210, .inr Tryz.call211, .inr Tryz.call212, .inr Tryz.call213, .inr Tryz.call214, .inr Tryz.call215, .inr Tryz.call265, .inr Tryz.call266, .inr Tryz.call267, .inr Tryz.call268, .inr Tryz.call270, .inr Tryz.call271, .inl rfl, .inl rfl, .inr Tryz.call285, .inr Tryz.call290, .inl rfl, .inl rfl, .inl rfl, .inr Tryz.call294, .inr Tryz.call295, .inr Tryz.call296, .inl rfl, .inl rfl, .inl rfl, .inr Tryz.call357, .inl rfl, .inl rfl, .inl rfl, .inl rfl, trivial⟩
theorem extOk : AllP (fun x : Nat × Func => x.2.body.isNone = false ∨ ((x.2.name == "runtime.NumGoroutine") = false ∧ Extern.findNext x.2 = none ∧ Extern.find x.2 = some (rowE ((env.ex.get none x.1).getD 0) x.2))) fns :=
  ⟨.inl rfl, .inl rfl, .inl rfl, .inl rfl, .inl rfl, .inl rfl, .inl rfl, .inl rfl, .inl rfl, .inl rfl, .inl rfl, .inl rfl, .inl rfl, .inl rfl, .inl rfl, .inl rfl, .inl rfl, .inl rfl, .inl rfl, .inl rfl, .inl rfl, .inl rfl, .inl rfl, .inl rfl, .inl rfl, .inl rfl, .inl rfl, .inl rfl, .inl rfl, .inl rfl, .inl rfl, .inl rfl, .inl rfl, .inl rfl, .inl rfl, .inl rfl, .inl rfl, .inl rfl, .inl rfl, .inl rfl, .inr ⟨by kernel_rfl, by kernel_rfl, by kernel_rfl⟩, .inl rfl, .inl rfl, .inl rfl, .inl rfl, .inl rfl, .inl rfl, .inl rfl, .inl rfl, .inl rfl, .inl rfl, .inl rfl, .inl rfl, .inl rfl, .inl rfl, .inl rfl, .inl rfl, .inl rfl, .inl rfl, .inl rfl, .inl rfl, .inl rfl, .inl rfl, .inl rfl, .inl rfl, .inl rfl, .inl rfl, .inl rfl, .inl rfl, .inl rfl, .inl rfl, .inl rfl, .inl rfl, .inl rfl, .inl rfl, .inl rfl, .inl rfl, .inl rfl, .inl rfl, .inl rfl, .inl rfl, .inl rfl, .inl rfl, .inl rfl, .inl rfl, .inl rfl, .inl rfl, .inl rfl, .inl rfl, .inl rfl, .inl rfl, .inl rfl, .inl rfl, .inl rfl, .inr ⟨by kernel_rfl, by kernel_rfl, by kernel_rfl⟩, .inl rfl, .inl rfl, .inl rfl, .inl rfl, .inl rfl, .inl rfl, .inl rfl, .inl rfl, .inl rfl, .inl rfl, .inl rfl, .inl rfl, .inl rfl, .inl rfl, .inr ⟨by kernel_rfl, by kernel_rfl, by kernel_rfl⟩, .inr ⟨by kernel_rfl, by kernel_rfl, by kernel_rfl⟩, .inl rfl, .inl rfl, .inr ⟨by kernel_rfl, by kernel_rfl, by kernel_rfl⟩, .inr ⟨by kernel_rfl, by kernel_rfl, by kernel_rfl⟩, .inr ⟨by kernel_rfl, by kernel_rfl, by kernel_rfl⟩, .inl rfl, .inl rfl, .inl rfl, .inr ⟨by kernel_rfl, by kernel_rfl, by kernel_rfl⟩, .inr ⟨by kernel_rfl, by kernel_rfl, by kernel_rfl⟩, .inr ⟨by kernel_rfl, by kernel_rfl, by kernel_rfl⟩, .inl rfl, .inr ⟨by kernel_rfl, by kernel_rfl, by kernel_rfl⟩, .inr ⟨by kernel_rfl, by kernel_rfl, by kernel_rfl⟩, .inr ⟨by kernel_rfl, by kernel_rfl, by kernel_rfl⟩, .inr ⟨by kernel_rfl, by kernel_rfl, by kernel_rfl⟩, trivial⟩
def fldB (P : Program) : TypeDesc → Bool
  | .struct fs => fs.toList.all fun f => (P.info? f.type).isSome
  | _ => true
theorem fldOk : (tys.all fun x => fldB Tryz.prog x.2.d) = true := by kernel_rfl
def zcB (i : Ty) : Bool := match i.z with | some z => z.cells.length == i.sz | none => true
theorem zcOk : (tys.all fun x => zcB x.2) = true := by kernel_rfl
theorem glOk : Tryz.prog.globals.size = 9 := by kernel_rfl
theorem mixedOk : Tryz.prog.follows .mixedOrders = true := by kernel_rfl
theorem envOk : env.Ok where
  ty t i h := tyOk.mem _ (laid_mem (l := tys) (n := 11) h)
  gl := by
    have h : env.P.globals.size = 9 := glOk
    omega
  fld t i fs h hd f hf := by
    have h1 := List.all_eq_true.1 fldOk _ (laid_mem (l := tys) (n := 11) h)
    simp only [hd, fldB] at h1
    have h2 := List.all_eq_true.1 h1 f hf
    exact Option.isSome_iff_exists.1 h2
  zc t i z h hz := by
    have h1 := List.all_eq_true.1 zcOk _ (laid_mem (l := tys) (n := 11) h)
    simpa only [zcB, hz, beq_iff_eq] using h1
theorem envOk2 : env.Ok2 where
  ok := envOk
  fn f fn h := fnOk.mem _ (laid_mem (l := fns) (n := 11) h)
  ext f fn h hb := by
    rcases extOk.mem _ (laid_mem (l := fns) (n := 11) h) with h1 | h1
    · simp only [hb] at h1; cases h1
    · exact h1
  enter f fn c h hb := by
    rcases enterOk.mem _ (laid_mem (l := fns) (n := 11) h) with h1 | h1
    · simp only [hb] at h1; cases h1
    · exact h1
  mixed := mixedOk
end Sn
end Go.Proofs
