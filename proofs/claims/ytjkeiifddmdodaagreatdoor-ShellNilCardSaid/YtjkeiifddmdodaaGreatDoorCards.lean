/-
  DERIVED. GIVEN WITH THE SEED: THE CARDS: each row of YtjkeiifddmdodaaGreatDoorRows.lean that lists a variable, with what it lists TIED to the program's text (the seventh form; the later family's looks); each row that meets fmt, with fmt's text TOLD by the authors' own Lean function (tested against real Go, not proved from fmt's source: count such statements apart). THE CARD IS WHAT COUNTS. Prove the row's statement (the work); the ties are given (YtjkeiifddmdodaaGreatDoorTie.lean); close each card by the builder's one call (the guide's Derived/Test/ToyasCard.lean, 'card_holds'). Laid BY PROGRAM, IN A SANDBOX (cutbox-door.mjs). By AI agents, Wed Nov 11 2026. No macro, syntax, notation, axiom, sorry.
-/
import Derived.Test.YtjkeiifddmdodaaGreatDoorRows
import GoSem.ClaimSeven
namespace Go.Proofs.YtjkeiifddmdodaaGreatDoor
namespace Rows

/-- THE TIED CARD OF 'avermentlaw25.ShellNil'. -/
def shellNilCard : Claim7 := { stood := { row := shellNilRow, standIns := [], harness := (true, "7c03a24d0cb89bd832a6aa3ebbe2a86f444f950258e5e27760913d4c0fdeef45"), looks := true }, kinds := [], alts := [], laidByText := true, laidKinds := [.pinned, .data, .sentinel, .sentinel, .data, .data, .data, .handle], laidTests := true, laidLooks := .later }
def ShellNilCardSaid : Prop := Claim7.holds Tryz.pinned (.plain (OpenSpec.ofChange shellNilSpec)) shellNilCard

/-- THE SECOND FORM's CARD OF 'avermentlaw25.ShellNil'. -/
def shellNilUptoCard : Claim7 := { stood := { row := shellNilUptoRow, standIns := [], harness := (true, "7c03a24d0cb89bd832a6aa3ebbe2a86f444f950258e5e27760913d4c0fdeef45"), looks := true }, kinds := [], alts := [], laidByText := true, laidKinds := [.pinned, .data, .sentinel, .sentinel, .data, .data, .data, .handle], laidTests := true, laidLooks := .later }
def ShellNilUptoCardSaid : Prop := Claim7.holds Tryz.pinned (.plain (OpenSpec.upto shellNilSpec)) shellNilUptoCard
end Rows
end Go.Proofs.YtjkeiifddmdodaaGreatDoor
